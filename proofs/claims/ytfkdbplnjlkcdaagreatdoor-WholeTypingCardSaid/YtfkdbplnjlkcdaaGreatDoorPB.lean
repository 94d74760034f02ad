import Derived.Test.YtfkdbplnjlkcdaaGreatDoorPA
namespace Go.Proofs.YtfkdbplnjlkcdaaGreatDoor.Sx
open Go
structure CurOk (c : bytes_Cursor) : Prop where
  h0 : 0 ≤ c.at'
  h1 : c.at' ≤ (c.b'.length : Int)
  h2 : c.b'.length ≤ 100000
  u8 : ∀ y ∈ c.b', Wf .u8 y
def failC (c : bytes_Cursor) (e : GoErr) : bytes_Cursor := if c.err' = .nil ∧ e ≠ .nil then ⟨c.b', c.at', .spot c.at' e⟩ else c
theorem fail_eq (c : bytes_Cursor) (e : GoErr) : bytes_Cursor_Fail.m c e = some (failC c e) := by
  unfold bytes_Cursor_Fail.m failC
  simp only [letJ]
  by_cases h1 : c.err' = .nil <;> by_cases h2 : e = .nil <;> simp [h1, h2]
theorem failC_b (c : bytes_Cursor) (e : GoErr) : (failC c e).b' = c.b' := by unfold failC; split <;> rfl
theorem failC_err {c : bytes_Cursor} {e : GoErr} (he : e ≠ .nil) : (failC c e).err' ≠ .nil := by
  unfold failC
  split
  · simp
  · rename_i h; intro h'; exact h ⟨h', he⟩
theorem failC_mk (c : bytes_Cursor) (e : GoErr) : (⟨c.b', (failC c e).at', (failC c e).err'⟩ : bytes_Cursor) = failC c e := by rw [← failC_b c e]
theorem left_eq {c : bytes_Cursor} (k : CurOk c) : bytes_Cursor_Left.m c = some ((c.b'.length : Int) - c.at', c) := by
  unfold bytes_Cursor_Left.m
  have := k.h0; have := k.h1; have := k.h2
  rw [w64_id (by omega) (by omega)]
theorem clone_eq {l : List Int} (h : l.length ≤ 100000) : slices_Clone_bytes.m l = some l := by
  unfold slices_Clone_bytes.m app Lim
  rw [if_pos (by simp; omega)]; rfl
theorem new_eq {l : List Int} (h : l.length ≤ 100000) : bytes_New.m l = some ⟨l, 0, .nil⟩ := by
  unfold bytes_New.m; rw [clone_eq h]; rfl
theorem sub_lenP {l : List Int} {i j : Int} : (sub l i j).length ≤ l.length := by
  unfold sub; rw [List.length_take, List.length_drop]; omega
def takeC (c : bytes_Cursor) (n : Int) : List Int × bytes_Cursor :=
  if n < 0 ∨ n > (c.b'.length : Int) - c.at' then ([], failC c (.no 2))
  else if c.err' = .nil then (sub c.b' c.at' (c.at' + n), ⟨c.b', c.at' + n, .nil⟩) else ([], c)
theorem take_eq {c : bytes_Cursor} (k : CurOk c) (n : Int) : bytes_Cursor_Take.m c n = some (takeC c n) := by
  unfold bytes_Cursor_Take.m takeC
  have := k.h0; have := k.h1; have := k.h2
  simp only [letJ, fail_eq, Option.bind_some, left_eq k]
  by_cases h1 : n < 0
  · simp only [h1, if_true, true_or, if_neg (failC_err (c := c) (e := .no 2) (by simp))]
    exact congrArg (fun x => some ([], x)) (failC_mk c _)
  · by_cases h2 : n > (c.b'.length : Int) - c.at'
    · simp only [h1, h2, if_true, if_false, or_true, if_neg (failC_err (c := c) (e := .no 2) (by simp))]
      exact congrArg (fun x => some ([], x)) (failC_mk c _)
    · simp only [h1, h2, if_false, or_self]
      by_cases h3 : c.err' = .nil
      · simp only [h3, if_true]
        have e1 : w64 (c.at' + n) = c.at' + n := w64_id (by omega) (by omega)
        have e2 : w64 (c.at' + n - n) = c.at' := by rw [w64_id (by omega) (by omega)]; omega
        rw [e1, e2, if_pos (by omega), if_pos (by omega), if_pos (by omega), clone_eq (Nat.le_trans sub_lenP k.h2)]
        rfl
      · simp only [h3, if_false]
def chr (b : Int) : Bool := b == 0 || b == 28 || b == 30 || (decide (b ≥ 64) && b != 255)
theorem char_eq (b : Int) : attr_Char.m b = some (chr b) := by
  unfold attr_Char.m chr
  by_cases h1 : b = 0
  · simp [h1]
  · by_cases h2 : b = 28
    · simp [h2]
    · by_cases h3 : b = 30
      · simp [h3]
      · by_cases h4 : b ≥ 64 <;> simp [h1, h2, h3, h4]
def cnt (l : List Int) : Nat := (l.takeWhile chr).length
theorem drop_at {l : List Int} {i : Int} (h0 : 0 ≤ i) (h1 : i < (l.length : Int)) : l.drop i.toNat = at_ l i :: l.drop (i + 1).toNat := by
  have hi : i.toNat < l.length := by omega
  rw [List.drop_eq_getElem_cons hi, at_eq (hi := hi)]
  congr 2
  omega
def charsC (c : bytes_Cursor) : List Int × bytes_Cursor :=
  if c.err' = .nil then (sub c.b' c.at' (c.at' + cnt (c.b'.drop c.at'.toNat)), ⟨c.b', c.at' + cnt (c.b'.drop c.at'.toNat), .nil⟩) else ([], c)
theorem sub_end {l : List Int} {i : Int} : sub l i (l.length : Int) = l.drop i.toNat := by
  unfold sub
  rw [List.take_of_length_le (by rw [List.length_drop]; omega)]
theorem byte_eq {c : bytes_Cursor} (k : CurOk c) : bytes_Cursor_Byte.m c = some (if (takeC c 1).1.length = 0 then 0 else at_ (takeC c 1).1 0, (takeC c 1).2) := by
  unfold bytes_Cursor_Byte.m
  rw [take_eq k, Option.bind_some]
  by_cases h : (takeC c 1).1.length = 0
  · simp [h]
  · rw [if_neg (by omega), if_pos (by omega), if_neg h]
theorem err_eq (c : bytes_Cursor) : bytes_Cursor_Err.m c = some (c.err', c) := rfl
def addrC (c : bytes_Cursor) (n : Int) : Int × bytes_Cursor :=
  if c.err' = .nil then
    (if (getOf (c.b'.drop c.at'.toNat) n).2 = .nil then ((getOf (c.b'.drop c.at'.toNat) n).1, ⟨c.b', c.at' + 2, .nil⟩) else (0, ⟨c.b', c.at', .spot c.at' (getOf (c.b'.drop c.at'.toNat) n).2⟩))
  else (0, c)
theorem getOf_bad {l : List Int} {n : Int} (h : (getOf l n).2 ≠ .nil) : (getOf l n).1 = 0 := by
  unfold getOf at h ⊢
  split
  · split
    · rfl
    · split
      · split
        · rfl
        · split
          · rfl
          · simp_all
      · split
        · split
          · rfl
          · simp_all
        · rfl
  · rfl
theorem getOf_good {l : List Int} {n : Int} (h : (getOf l n).2 = .nil) : 2 ≤ (l.length : Int) := by
  unfold getOf at h
  split at h
  · split at h
    · cases h
    · omega
  · cases h
theorem addr_eq {c : bytes_Cursor} (k : CurOk c) (n : Int) : bytes_Cursor_Addr.m KK c n = some (addrC c n) := by
  unfold bytes_Cursor_Addr.m addrC
  have a0 := k.h0; have a1 := k.h1; have a2 := k.h2
  by_cases h : c.err' = .nil
  · simp only [h, if_true, a0, a1, sub_end, fail_eq]
    rw [get04 (fun y hy => k.u8 y (List.mem_of_mem_drop hy)), Option.bind_some, Option.bind_some]
    by_cases hr : (getOf (c.b'.drop c.at'.toNat) n).2 = .nil
    · simp only [hr, if_true]
      unfold failC
      rw [if_neg (by simp), w64_id (by omega) (by omega), h]
    · simp only [hr, if_false, getOf_bad hr]
      unfold failC
      rw [if_pos ⟨h, hr⟩]
  · simp only [h, if_false]
theorem addrC_ok {c : bytes_Cursor} (k : CurOk c) (n : Int) : CurOk (addrC c n).2 := by
  unfold addrC
  split
  · split
    · rename_i _ hr
      have := getOf_good hr
      rw [List.length_drop] at this
      have := k.h0; have := k.h1
      exact ⟨by simp only; omega, by simp only; omega, k.h2, k.u8⟩
    · exact ⟨k.h0, k.h1, k.h2, k.u8⟩
  · exact k
theorem peek_eq {c : bytes_Cursor} (k : CurOk c) : bytes_Cursor_Peek.m c = some (if c.err' = .nil ∧ c.at' < (c.b'.length : Int) then (at_ c.b' c.at', true, c) else (0, false, c)) := by
  unfold bytes_Cursor_Peek.m
  have a0 := k.h0; have a1 := k.h1
  by_cases h : c.err' = .nil
  · simp only [h, if_true, left_eq k, Option.bind_some, true_and]
    have e : (⟨c.b', c.at', GoErr.nil⟩ : bytes_Cursor) = c := by rw [← h]
    by_cases h2 : (c.b'.length : Int) - c.at' = 0
    · rw [if_pos h2, if_neg (by omega), e]
    · rw [if_neg h2, if_pos a0, if_pos (by omega), if_pos (by omega), e]
  · simp only [h, if_false, false_and]
def Inv (e : GoErr) (code wh : Int) : Prop := (e = .nil ∧ code = 0 ∧ wh = -1) ∨ (∃ a k, e = .spot a k ∧ codeOf k = code ∧ code ≠ 0 ∧ wh = a)
theorem rd6_err (a b : Int) : (rd6 a b).2 = .nil ∨ ∃ x, (rd6 a b).2 = .spot x (.no 3) := by
  unfold rd6
  split
  · split
    · exact .inl rfl
    · exact .inr ⟨_, rfl⟩
  · exact .inr ⟨_, rfl⟩
theorem getOf_code {l : List Int} {n : Int} (h : (getOf l n).2 ≠ .nil) : codeOf (getOf l n).2 ≠ 0 := by
  unfold getOf at h ⊢
  split
  · split
    · decide
    · split
      · split
        · simp [codeOf, code?]
        · split
          · decide
          · simp_all
      · split
        · split
          · decide
          · simp_all
        · rename_i hn
          rcases rd6_err (at_ l 0) (at_ l 1) with e | ⟨x, e⟩
          · exact absurd e hn
          · simp only [e]; simp [codeOf, code?]
  · decide
theorem sub1 {b : List Int} {p : Int} (h0 : 0 ≤ p) (h1 : p < (b.length : Int)) : sub b p (p + 1) = [at_ b p] := by
  unfold sub
  rw [drop_at h0 h1, show (p + 1).toNat - p.toNat = 1 by omega]
  rfl
end Go.Proofs.YtfkdbplnjlkcdaaGreatDoor.Sx
