import Derived.Test.YtjkbhpokboolpaaGreatDoorPA
namespace Go.Proofs.YtjkbhpokboolpaaGreatDoor.Sx
open Go
structure CurOk (c : bytes_Cursor) : Prop where
  h0 : 0 ≤ c.at'
  h1 : c.at' ≤ (c.b'.length : Int)
  h2 : c.b'.length ≤ 100000
  u8 : ∀ y ∈ c.b', Wf .u8 y
def failC (c : bytes_Cursor) (e : GoErr) : bytes_Cursor := if c.err' = .nil ∧ e ≠ .nil then ⟨c.b', c.at', .spot c.at' e⟩ else c
theorem fail_eq (c : bytes_Cursor) (e : GoErr) : bytes_Cursor_Fail.m c e = some (failC c e) := by
  unfold bytes_Cursor_Fail.m failC
  simp only [letJ]
  by_cases h1 : c.err' = .nil <;> by_cases h2 : e = .nil <;> simp [h1, h2]
theorem failC_b (c : bytes_Cursor) (e : GoErr) : (failC c e).b' = c.b' := by unfold failC; split <;> rfl
theorem failC_at (c : bytes_Cursor) (e : GoErr) : (failC c e).at' = c.at' := by unfold failC; split <;> rfl
theorem failC_err {c : bytes_Cursor} {e : GoErr} (he : e ≠ .nil) : (failC c e).err' ≠ .nil := by
  unfold failC
  split
  · simp
  · rename_i h; intro h'; exact h ⟨h', he⟩
theorem etaC (c : bytes_Cursor) : (⟨c.b', c.at', c.err'⟩ : bytes_Cursor) = c := rfl
theorem failC_mk (c : bytes_Cursor) (e : GoErr) : (⟨c.b', (failC c e).at', (failC c e).err'⟩ : bytes_Cursor) = failC c e := by rw [← failC_b c e]
theorem failC_ok {c : bytes_Cursor} (k : CurOk c) (e : GoErr) : CurOk (failC c e) :=
  ⟨by rw [failC_at]; exact k.h0, by rw [failC_at, failC_b]; exact k.h1, by rw [failC_b]; exact k.h2, by rw [failC_b]; exact k.u8⟩
theorem failC_set {c : bytes_Cursor} {e : GoErr} (h : c.err' ≠ .nil) : failC c e = c := by unfold failC; rw [if_neg (fun x => h x.1)]
theorem left_eq {c : bytes_Cursor} (k : CurOk c) : bytes_Cursor_Left.m c = some ((c.b'.length : Int) - c.at', c) := by
  unfold bytes_Cursor_Left.m
  have := k.h0; have := k.h1; have := k.h2
  rw [w64_id (by omega) (by omega)]
theorem clone_eq {l : List Int} (h : l.length ≤ 100000) : slices_Clone_bytes.m l = some l := by
  unfold slices_Clone_bytes.m app Lim
  rw [if_pos (by simp; omega)]; rfl
theorem new_eq {l : List Int} (h : l.length ≤ 100000) : bytes_New.m l = some ⟨l, 0, .nil⟩ := by
  unfold bytes_New.m; rw [clone_eq h]; rfl
theorem sub_lenP {l : List Int} {i j : Int} : (sub l i j).length ≤ l.length := by
  unfold sub; rw [List.length_take, List.length_drop]; omega
def takeC (c : bytes_Cursor) (n : Int) : List Int × bytes_Cursor :=
  if n < 0 ∨ n > (c.b'.length : Int) - c.at' then ([], failC c (.no 2))
  else if c.err' = .nil then (sub c.b' c.at' (c.at' + n), ⟨c.b', c.at' + n, .nil⟩) else ([], c)
theorem take_eq {c : bytes_Cursor} (k : CurOk c) (n : Int) : bytes_Cursor_Take.m c n = some (takeC c n) := by
  unfold bytes_Cursor_Take.m takeC
  have := k.h0; have := k.h1; have := k.h2
  simp only [letJ, fail_eq, Option.bind_some, left_eq k]
  by_cases h1 : n < 0
  · simp only [h1, if_true, true_or, if_neg (failC_err (c := c) (e := .no 2) (by simp))]
    exact congrArg (fun x => some ([], x)) (failC_mk c _)
  · by_cases h2 : n > (c.b'.length : Int) - c.at'
    · simp only [h1, h2, if_true, if_false, or_true, if_neg (failC_err (c := c) (e := .no 2) (by simp))]
      exact congrArg (fun x => some ([], x)) (failC_mk c _)
    · simp only [h1, h2, if_false, or_self]
      by_cases h3 : c.err' = .nil
      · simp only [h3, if_true]
        have e1 : w64 (c.at' + n) = c.at' + n := w64_id (by omega) (by omega)
        have e2 : w64 (c.at' + n - n) = c.at' := by rw [w64_id (by omega) (by omega)]; omega
        rw [e1, e2, if_pos (by omega), if_pos (by omega), if_pos (by omega), clone_eq (Nat.le_trans sub_lenP k.h2)]
        rfl
      · simp only [h3, if_false]
theorem takeC_set {c : bytes_Cursor} (h : c.err' ≠ .nil) (n : Int) : takeC c n = ([], c) := by
  unfold takeC
  rw [failC_set h, if_neg h]
  split <;> rfl
def chr (b : Int) : Bool := b == 0 || b == 28 || b == 30 || (decide (b ≥ 64) && b != 255)
theorem char_eq (b : Int) : attr_Char.m b = some (chr b) := by
  unfold attr_Char.m chr
  by_cases h1 : b = 0
  · simp [h1]
  · by_cases h2 : b = 28
    · simp [h2]
    · by_cases h3 : b = 30
      · simp [h3]
      · by_cases h4 : b ≥ 64 <;> simp [h1, h2, h3, h4]
def cnt (l : List Int) : Nat := (l.takeWhile chr).length
theorem cnt_le (l : List Int) : cnt l ≤ l.length := by
  unfold cnt
  induction l with
  | nil => simp
  | cons x l ih => rw [List.takeWhile_cons]; split <;> simp; omega
theorem drop_at {l : List Int} {i : Int} (h0 : 0 ≤ i) (h1 : i < (l.length : Int)) : l.drop i.toNat = at_ l i :: l.drop (i + 1).toNat := by
  have hi : i.toNat < l.length := by omega
  rw [List.drop_eq_getElem_cons hi, at_eq (hi := hi)]
  congr 2
  omega
theorem index_eq {l : List Int} (hl : l.length ≤ 100000) : slices_IndexFunc_bytes__bytes_Cursor_Chars_1.m KK l = some (if cnt l < l.length then (cnt l : Int) else -1) := by
  have step : ∀ (k : Nat) (i : Int), 0 ≤ i → i ≤ (l.length : Int) → (l.length : Int) - i < k →
      slices_IndexFunc_bytes__bytes_Cursor_Chars_1.l1.m KK l k i = some (if i + cnt (l.drop i.toNat) < l.length then .inl (i + cnt (l.drop i.toNat)) else .inr ()) := by
    intro k
    induction k with
    | zero => intro i h0 h1 h2; omega
    | succ k ih =>
      intro i h0 h1 h2
      rw [slices_IndexFunc_bytes__bytes_Cursor_Chars_1.l1.m]
      by_cases h3 : i < (l.length : Int)
      · simp only [letJ, h3, h0, if_true, cond_true, bytes_Cursor_Chars_1.m, char_eq, Option.bind_some]
        rw [drop_at h0 h3]
        unfold cnt
        rw [List.takeWhile_cons]
        cases hc : chr (at_ l i) with
        | false => simp [h3]
        | true =>
          simp only [Bool.not_true, cond_false, if_true, List.length_cons]
          rw [w64_id (n := i + 1) (by omega) (by omega), ih (i + 1) (by omega) (by omega) (by omega)]
          unfold cnt
          have : i + 1 + ((List.takeWhile chr (List.drop (i + 1).toNat l)).length : Int) = i + (((List.takeWhile chr (List.drop (i + 1).toNat l)).length + 1 : Nat) : Int) := by omega
          rw [this]
      · have : i = (l.length : Int) := by omega
        subst this
        simp [letJ, cnt]
  unfold slices_IndexFunc_bytes__bytes_Cursor_Chars_1.m
  rw [step KK 0 (by omega) (by omega) (by unfold KK; omega), Option.bind_some]
  simp only [Int.toNat_zero, List.drop_zero, Int.zero_add]
  by_cases h : cnt l < l.length
  · rw [if_pos (by omega), if_pos h]
  · rw [if_neg (by omega), if_neg h]
def charsC (c : bytes_Cursor) : List Int × bytes_Cursor :=
  if c.err' = .nil then (sub c.b' c.at' (c.at' + cnt (c.b'.drop c.at'.toNat)), ⟨c.b', c.at' + cnt (c.b'.drop c.at'.toNat), .nil⟩) else ([], c)
theorem sub_end {l : List Int} {i : Int} : sub l i (l.length : Int) = l.drop i.toNat := by
  unfold sub
  rw [List.take_of_length_le (by rw [List.length_drop]; omega)]
theorem chars_eq {c : bytes_Cursor} (k : CurOk c) : bytes_Cursor_Chars.m KK c = some (charsC c) := by
  unfold bytes_Cursor_Chars.m charsC
  have a0 := k.h0; have a1 := k.h1; have a2 := k.h2
  by_cases h : c.err' = .nil
  · have hl : (c.b'.drop c.at'.toNat).length = c.b'.length - c.at'.toNat := List.length_drop ..
    have hc := cnt_le (c.b'.drop c.at'.toNat)
    have he : (⟨c.b', c.at', GoErr.nil⟩ : bytes_Cursor) = c := by rw [← h]
    simp only [h, if_true, a0, a1, sub_end, index_eq (l := c.b'.drop c.at'.toNat) (by omega), Option.bind_some, left_eq k, he, take_eq k]
    generalize hm : cnt (c.b'.drop c.at'.toNat) = m at *
    by_cases hlt : m < (c.b'.drop c.at'.toNat).length
    · simp only [hlt, if_true]
      rw [if_neg (by omega)]
      unfold takeC
      rw [if_neg (by omega), if_pos h]
    · simp only [hlt, if_false, show (-1 : Int) < 0 from by decide, if_true]
      unfold takeC
      rw [if_neg (by omega), if_pos h]
      have e : c.at' + ((c.b'.length : Int) - c.at') = c.at' + (m : Int) := by omega
      rw [e]
  · simp only [h, if_false]
theorem byte_eq {c : bytes_Cursor} (k : CurOk c) : bytes_Cursor_Byte.m c = some (if (takeC c 1).1.length = 0 then 0 else at_ (takeC c 1).1 0, (takeC c 1).2) := by
  unfold bytes_Cursor_Byte.m
  rw [take_eq k, Option.bind_some]
  by_cases h : (takeC c 1).1.length = 0
  · simp [h]
  · rw [if_neg (by omega), if_pos (by omega), if_neg h]
theorem err_eq (c : bytes_Cursor) : bytes_Cursor_Err.m c = some (c.err', c) := rfl
def addrC (c : bytes_Cursor) (n : Int) : Int × bytes_Cursor :=
  if c.err' = .nil then
    (if (getOf (c.b'.drop c.at'.toNat) n).2 = .nil then ((getOf (c.b'.drop c.at'.toNat) n).1, ⟨c.b', c.at' + 2, .nil⟩) else (0, ⟨c.b', c.at', .spot c.at' (getOf (c.b'.drop c.at'.toNat) n).2⟩))
  else (0, c)
theorem getOf_bad {l : List Int} {n : Int} (h : (getOf l n).2 ≠ .nil) : (getOf l n).1 = 0 := by
  unfold getOf at h ⊢
  split
  · split
    · rfl
    · split
      · split
        · rfl
        · split
          · rfl
          · simp_all
      · split
        · split
          · rfl
          · simp_all
        · rfl
  · rfl
theorem getOf_good {l : List Int} {n : Int} (h : (getOf l n).2 = .nil) : 2 ≤ (l.length : Int) := by
  unfold getOf at h
  split at h
  · split at h
    · cases h
    · omega
  · cases h
theorem addr_eq {c : bytes_Cursor} (k : CurOk c) (n : Int) : bytes_Cursor_Addr.m KK c n = some (addrC c n) := by
  unfold bytes_Cursor_Addr.m addrC
  have a0 := k.h0; have a1 := k.h1; have a2 := k.h2
  by_cases h : c.err' = .nil
  · simp only [h, if_true, a0, a1, sub_end, fail_eq]
    rw [get04 (fun y hy => k.u8 y (List.mem_of_mem_drop hy)), Option.bind_some, Option.bind_some]
    by_cases hr : (getOf (c.b'.drop c.at'.toNat) n).2 = .nil
    · simp only [hr, if_true]
      unfold failC
      rw [if_neg (by simp), w64_id (by omega) (by omega), h]
    · simp only [hr, if_false, getOf_bad hr]
      unfold failC
      rw [if_pos ⟨h, hr⟩]
  · simp only [h, if_false]
theorem addrC_ok {c : bytes_Cursor} (k : CurOk c) (n : Int) : CurOk (addrC c n).2 := by
  unfold addrC
  split
  · split
    · rename_i _ hr
      have := getOf_good hr
      rw [List.length_drop] at this
      have := k.h0; have := k.h1
      exact ⟨by simp only; omega, by simp only; omega, k.h2, k.u8⟩
    · exact ⟨k.h0, k.h1, k.h2, k.u8⟩
  · exact k
theorem peek_eq {c : bytes_Cursor} (k : CurOk c) : bytes_Cursor_Peek.m c = some (if c.err' = .nil ∧ c.at' < (c.b'.length : Int) then (at_ c.b' c.at', true, c) else (0, false, c)) := by
  unfold bytes_Cursor_Peek.m
  have a0 := k.h0; have a1 := k.h1
  by_cases h : c.err' = .nil
  · simp only [h, if_true, left_eq k, Option.bind_some, true_and]
    have e : (⟨c.b', c.at', GoErr.nil⟩ : bytes_Cursor) = c := by rw [← h]
    by_cases h2 : (c.b'.length : Int) - c.at' = 0
    · rw [if_pos h2, if_neg (by omega), e]
    · rw [if_neg h2, if_pos a0, if_pos (by omega), if_pos (by omega), e]
  · simp only [h, if_false, false_and]
theorem same_eq {a b : List Int} (ha : a.length ≤ 100000) : shutterref01_Same.m KK a b = some (a == b) := by
  unfold shutterref01_Same.m
  by_cases hl : (a.length : Int) = (b.length : Int)
  · rw [if_pos hl]
    have step : ∀ (k : Nat) (i : Int), 0 ≤ i → i ≤ (a.length : Int) → (a.length : Int) - i < k →
        shutterref01_Same.l1.m KK a b k i = some (if a.drop i.toNat = b.drop i.toNat then .inr () else .inl false) := by
      intro k
      induction k with
      | zero => intro i h0 h1 h2; omega
      | succ k ih =>
        intro i h0 h1 h2
        rw [shutterref01_Same.l1.m]
        by_cases h3 : i < (a.length : Int)
        · rw [if_pos h3, if_pos h0, if_pos (by omega), drop_at h0 h3, drop_at (l := b) h0 (by omega)]
          by_cases he : at_ a i = at_ b i
          · rw [if_pos he, w64_id (n := i + 1) (by omega) (by omega), ih (i + 1) (by omega) (by omega) (by omega), he]
            simp only [List.cons.injEq, true_and]
          · rw [if_neg he, if_neg (by simp [he])]
        · rw [if_neg h3, if_pos]
          rw [List.drop_eq_nil_of_le (by omega), List.drop_eq_nil_of_le (by omega)]
    rw [step KK 0 (by omega) (by omega) (by unfold KK; omega), Option.bind_some]
    simp only [Int.toNat_zero, List.drop_zero]
    by_cases h : a = b
    · rw [if_pos h]; simp [h]
    · rw [if_neg h]; simp [h]
  · rw [if_neg hl]
    have : a ≠ b := fun e => hl (by rw [e])
    simp [this]
def Inv (e : GoErr) (code wh : Int) : Prop := (e = .nil ∧ code = 0 ∧ wh = -1) ∨ (∃ a k, e = .spot a k ∧ codeOf k = code ∧ code ≠ 0 ∧ wh = a)
theorem rd6_err (a b : Int) : (rd6 a b).2 = .nil ∨ ∃ x, (rd6 a b).2 = .spot x (.no 3) := by
  unfold rd6
  split
  · split
    · exact .inl rfl
    · exact .inr ⟨_, rfl⟩
  · exact .inr ⟨_, rfl⟩
theorem getOf_code {l : List Int} {n : Int} (h : (getOf l n).2 ≠ .nil) : codeOf (getOf l n).2 ≠ 0 := by
  unfold getOf at h ⊢
  split
  · split
    · decide
    · split
      · split
        · simp [codeOf, code?]
        · split
          · decide
          · simp_all
      · split
        · split
          · decide
          · simp_all
        · rename_i hn
          rcases rd6_err (at_ l 0) (at_ l 1) with e | ⟨x, e⟩
          · exact absurd e hn
          · simp only [e]; simp [codeOf, code?]
  · decide
theorem sub1 {b : List Int} {p : Int} (h0 : 0 ≤ p) (h1 : p < (b.length : Int)) : sub b p (p + 1) = [at_ b p] := by
  unfold sub
  rw [drop_at h0 h1, show (p + 1).toNat - p.toNat = 1 by omega]
  rfl
end Go.Proofs.YtjkbhpokboolpaaGreatDoor.Sx
