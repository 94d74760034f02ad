/- Package bytes: what is handed in stays. -/
import Derived.Test.YtooaghempnlclaaDoorPR
namespace Go.Proofs.YtooaghempnlclaaDoor.Sx
open Go
set_option maxRecDepth 100000

theorem take_set_k {l : List Int} {n : Nat} {v : Int} (h : n < l.length) : (l.set n v).take (n + 1) = l.take n ++ [v] := by
  apply List.ext_getElem?
  intro j
  rw [List.getElem?_take, List.getElem?_append, List.getElem?_set, List.length_take, Nat.min_eq_left (by omega), List.getElem?_take]
  by_cases h1 : j < n
  · rw [if_pos (by omega), if_neg (by omega), if_pos h1, if_pos h1]
  · by_cases h2 : j = n
    · subst h2; rw [if_pos (by omega), if_pos rfl, if_pos h, if_neg (by omega)]; simp
    · rw [if_neg (by omega), if_neg h1, List.getElem?_eq_none (by simp; omega)]
def flip (l : List Int) : List Int := l.map fun b => bXor .u8 b 255
theorem flip1 : ∀ (k : Nat) (l : List Int) (i : Int), 0 ≤ i → i ≤ (l.length : Int) → (l.length : Int) - i < (k : Int) → l.length ≤ 1000 →
    shutterlaw06_BytesKeeps.l1.m KK k l i = some (l.take i.toNat ++ flip (l.drop i.toNat)) := by
  intro k
  induction k with
  | zero => intro l i _ _ h; omega
  | succ k ih =>
    intro l i i0 i1 hk hl
    rw [shutterlaw06_BytesKeeps.l1.m]
    by_cases h3 : i < (l.length : Int)
    · rw [if_pos h3, if_pos i0, w64_id (n := i + 1) (by omega) (by omega), ih _ (i + 1) (by omega) (by rw [List.length_set]; omega) (by rw [List.length_set]; omega) (by rw [List.length_set]; exact hl)]
      rw [show (i + 1).toNat = i.toNat + 1 by omega, take_set_k (by omega), List.drop_set_of_lt (by omega), drop_at (l := l) i0 h3, List.append_assoc, show (i + 1).toNat = i.toNat + 1 by omega]; rfl
    · rw [if_neg h3, List.take_of_length_le (by omega), List.drop_eq_nil_of_le (by omega)]; simp [flip]
theorem flip2 : ∀ (k : Nat) (l : List Int) (i : Int), 0 ≤ i → i ≤ (l.length : Int) → (l.length : Int) - i < (k : Int) → l.length ≤ 1000 →
    shutterlaw06_BytesKeeps.l2.m KK k l i = some (l.take i.toNat ++ flip (l.drop i.toNat)) := by
  intro k
  induction k with
  | zero => intro l i _ _ h; omega
  | succ k ih =>
    intro l i i0 i1 hk hl
    rw [shutterlaw06_BytesKeeps.l2.m]
    by_cases h3 : i < (l.length : Int)
    · rw [if_pos h3, if_pos i0, w64_id (n := i + 1) (by omega) (by omega), ih _ (i + 1) (by omega) (by rw [List.length_set]; omega) (by rw [List.length_set]; omega) (by rw [List.length_set]; exact hl)]
      rw [show (i + 1).toNat = i.toNat + 1 by omega, take_set_k (by omega), List.drop_set_of_lt (by omega), drop_at (l := l) i0 h3, List.append_assoc, show (i + 1).toNat = i.toNat + 1 by omega]; rfl
    · rw [if_neg h3, List.take_of_length_le (by omega), List.drop_eq_nil_of_le (by omega)]; simp [flip]
theorem app_okk {l m : List Int} (h : l.length + m.length ≤ 1099511627776) : app l m = some (l ++ m) := by unfold app; rw [if_pos (by unfold Lim; exact h)]
theorem clone_k {l : List Int} (h : l.length ≤ 1000) : slices_Clone_bytes.m l = some l := by
  unfold slices_Clone_bytes.m; rw [app_okk (by simp; omega), Option.bind_some, List.nil_append]
theorem new_k {l : List Int} (h : l.length ≤ 1000) : bytes_New.m l = some ⟨l, 0, .nil⟩ := by unfold bytes_New.m; rw [clone_k h, Option.bind_some]
theorem take_k {l : List Int} {n : Int} (hn : n = (l.length : Int)) (h : l.length ≤ 1000) : bytes_Cursor_Take.m ⟨l, 0, .nil⟩ n = some (l, ⟨l, n, .nil⟩) := by
  subst hn
  unfold bytes_Cursor_Take.m bytes_Cursor_Left.m
  simp only [letJ]
  have q : w64 ((l.length : Int) - 0) = (l.length : Int) := by rw [w64_id (n := (l.length : Int) - 0) (by omega) (by omega)]; omega
  have q2 : w64 (0 + (l.length : Int)) = (l.length : Int) := by rw [w64_id (n := 0 + (l.length : Int)) (by omega) (by omega)]; omega
  have q3 : w64 ((l.length : Int) - (l.length : Int)) = 0 := by rw [w64_id (n := (l.length : Int) - (l.length : Int)) (by omega) (by omega)]; omega
  have e : sub l 0 (l.length : Int) = l := by unfold sub; simp
  rw [if_neg (by omega), Option.bind_some]
  simp only [q, q2, q3]
  rw [if_neg (by omega), if_pos trivial, if_pos (by omega), if_pos (by omega), if_pos (by omega), e, clone_k h, Option.bind_some]
theorem awake6 : shutterlaw06_awake.m KK = some true := by kernel_rfl
theorem BytesKeeps_true (x0 : (List Int)) (_ : ∀ y ∈ x0, Wf .u8 y) (_ : x0.length ≤ maxLen) : shutterlaw06_BytesKeeps.m KK x0 = some true := by
  unfold shutterlaw06_BytesKeeps.m
  rw [awake6, Option.bind_some, cond_true]
  by_cases h0 : (x0.length : Int) > 300
  · rw [if_pos h0, Option.bind_some]
  · have f1 := flip1 KK x0 0 (by omega) (by omega) (by unfold KK; omega) (by omega)
    have f2 := flip2 KK x0 0 (by omega) (by omega) (by unfold KK; omega) (by omega)
    simp only [Int.toNat_zero, List.take_zero, List.drop_zero, List.nil_append] at f1 f2
    have hl : (flip x0).length = x0.length := by unfold flip; rw [List.length_map]
    rw [if_neg h0, app_okk (by simp; omega), Option.bind_some, List.nil_append, new_k (by omega), Option.bind_some, Option.bind_some, f1, Option.bind_some, take_k rfl (by omega), Option.bind_some]
    simp only
    rw [f2, Option.bind_some, Option.bind_some]
    simp only
    rw [same_eq (by omega), Option.bind_some, beq_self_eq_true, cond_true, same_eq (by omega), Option.bind_some, beq_self_eq_true]
end Go.Proofs.YtooaghempnlclaaDoor.Sx
