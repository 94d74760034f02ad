import Derived.Test.YtjkbhpokboolpaaGreatDoorPC
import Derived.Test.YtjkbhpokboolpaaGreatDoorGE
namespace Go.Proofs.YtjkbhpokboolpaaGreatDoor.Sx
open Go
def zO : api_Order := ⟨0, [], ⟨false, false, 0, false⟩, 0, 0⟩
structure RightO (o : api_Order) (n : Int) : Prop where
  lo : 1 ≤ o.Kind
  hi : o.Kind ≤ 7
  text : o.Kind = 1 ↔ o.Text ≠ []
  chars : o.Text.all chr = true
  attr : o.Kind = 2 → okA o.Attr = true
  noattr : o.Kind ≠ 2 → o.Attr = zAt
  char : o.Kind = 6 → chr o.Char = true
  nochar : o.Kind ≠ 6 → o.Char = 0
  addr : o.Kind = 3 ∨ o.Kind = 6 ∨ o.Kind = 7 → 0 ≤ o.Addr ∧ o.Addr < n
  noaddr : ¬ (o.Kind = 3 ∨ o.Kind = 6 ∨ o.Kind = 7) → o.Addr = 0
theorem right_iff {o : api_Order} {n : Int} : wrongOf o n = 0 ↔ RightO o n := by
  constructor
  · intro h
    unfold wrongOf at h
    by_cases h1 : o.Kind < 1 ∨ o.Kind > 7
    · rw [if_pos h1] at h; omega
    rw [if_neg h1] at h
    by_cases h2 : ((decide (o.Kind = 1) != decide (o.Text ≠ [])) || !o.Text.all chr) = true
    · rw [if_pos h2] at h; omega
    rw [if_neg h2] at h
    by_cases h3 : (if o.Kind = 2 then !okA o.Attr else o.Attr != zAt) = true
    · rw [if_pos h3] at h; omega
    rw [if_neg h3] at h
    by_cases h4 : (if o.Kind = 6 then !chr o.Char else o.Char != 0) = true
    · rw [if_pos h4] at h; omega
    rw [if_neg h4] at h
    simp only [Bool.or_eq_true, not_or, Bool.not_eq_true, Bool.not_eq_false'] at h2
    refine ⟨by omega, by omega, ?_, h2.2, ?_, ?_, ?_, ?_, ?_, ?_⟩
    · have := h2.1
      simp only [bne_eq_false_iff_eq, decide_eq_decide] at this
      exact this
    · intro e; rw [if_pos e] at h3; simpa using h3
    · intro e; rw [if_neg e] at h3; simpa using h3
    · intro e; rw [if_pos e] at h4; simpa using h4
    · intro e; rw [if_neg e] at h4; simpa using h4
    · intro e; rw [if_pos e] at h; unfold addrW at h; split at h <;> omega
    · intro e; rw [if_neg e] at h; split at h <;> first | assumption | omega
  · intro r
    unfold wrongOf
    have := r.lo; have := r.hi
    rw [if_neg (by omega), if_neg, if_neg, if_neg]
    · split
      · rename_i e; have := r.addr e; unfold addrW; rw [if_neg (by omega)]
      · rename_i e; rw [if_pos (r.noaddr e)]
    · split
      · rename_i e; simp [r.char e]
      · rename_i e; simp [r.nochar e]
    · split
      · rename_i e; simp [r.attr e]
      · rename_i e; simp [r.noattr e]
    · have h1 : decide (o.Kind = 1) = decide (o.Text ≠ []) := by rw [decide_eq_decide]; exact r.text
      rw [h1, r.chars]; simp
def putO (o : api_Order) (n : Int) : List Int :=
  if o.Kind = 1 then o.Text else if o.Kind = 2 then [29, putA o.Attr] else if o.Kind = 4 then [19] else if o.Kind = 5 then [5]
  else if o.Kind = 3 then 17 :: putOf o.Addr n else if o.Kind = 7 then 18 :: putOf o.Addr n else 60 :: (putOf o.Addr n ++ [o.Char])
theorem app_ok {α : Type} {l m : List α} (h : l.length + m.length ≤ 1000000) : app l m = some (l ++ m) := by unfold app Lim; rw [if_pos (by omega)]
theorem oput_eq {o : api_Order} {n : Int} (ht : o.Text.length ≤ 100000) (n1 : 1 ≤ n) (n2 : n ≤ 16383) :
    order_Put.m KK o n = some (if wrongOf o n = 0 then (putO o n, GoErr.nil) else ([], .no (wrongOf o n))) := by
  unfold order_Put.m
  rw [right_eq ht, Option.bind_some]
  by_cases hw : wrongOf o n = 0
  · have r := right_iff.1 hw
    rw [hw, if_pos rfl, if_pos (show errOf 0 = .nil from rfl)]
    obtain ⟨k, t, a, ad, ch⟩ := o
    have h1 := r.lo; have h2 := r.hi
    have ra := r.attr; have rp := r.addr
    simp only at h1 h2 ht ra rp ⊢
    unfold putO
    rcases kinds (k := k) (by omega) (by omega) with rfl | rfl | rfl | rfl | rfl | rfl | rfl
    · simp [clone_eq ht]
    · simp [order_byteOf.m, at_, letJ, (attr_facts (ra rfl)).1, app, Lim]
    · obtain ⟨p1, p2⟩ := rp (by simp)
      simp [order_byteOf.m, at_, letJ, put04 n1 n2 p1 p2, app, Lim, put_len]
    · simp [order_byteOf.m, at_, letJ]
    · simp [order_byteOf.m, at_, letJ]
    · obtain ⟨p1, p2⟩ := rp (by simp)
      simp [order_byteOf.m, at_, letJ, put04 n1 n2 p1 p2, app, Lim, put_len]
    · obtain ⟨p1, p2⟩ := rp (by simp)
      simp [order_byteOf.m, at_, letJ, put04 n1 n2 p1 p2, app, Lim, put_len]
  · have : errOf (wrongOf o n) = .no (wrongOf o n) := by unfold errOf; rw [if_neg hw]
    rw [this, if_neg (by simp), if_neg hw]
end Go.Proofs.YtjkbhpokboolpaaGreatDoor.Sx
