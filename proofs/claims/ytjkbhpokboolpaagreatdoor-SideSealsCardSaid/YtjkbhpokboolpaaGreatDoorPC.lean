import Derived.Test.YtjkbhpokboolpaaGreatDoorPB
import Derived.Test.YtjkbhpokboolpaaGreatDoorGE
namespace Go.Proofs.YtjkbhpokboolpaaGreatDoor.Sx
open Go
def b2i (b : Bool) (n : Int) : Int := if b then n else 0
def numA (a : api_Attr) : Int := b2i a.Protected 32 + b2i a.Numeric 16 + 4 * a.Show + b2i a.Modified 1
def putA (a : api_Attr) : Int := tab (numA a)
def zAt : api_Attr := ⟨false, false, 0, false⟩
def okA (a : api_Attr) : Bool := decide (0 ≤ a.Show) && decide (a.Show ≤ 3)
theorem okA_iff {a : api_Attr} : okA a = true ↔ 0 ≤ a.Show ∧ a.Show ≤ 3 := by unfold okA; simp
set_option maxRecDepth 100000 in
theorem attr_all (p n m : Bool) : (List.range 4).all (fun s => (attr_Put.m KK ⟨p, n, (s : Int), m⟩ == some (putA ⟨p, n, (s : Int), m⟩, GoErr.nil)) && (attr_Put.m KK ⟨p, n, (s : Int), m⟩ == some (putA ⟨p, n, (s : Int), m⟩, GoErr.nil))
    && true && decide (0 ≤ putA ⟨p, n, (s : Int), m⟩) && decide (putA ⟨p, n, (s : Int), m⟩ ≤ 255)) = true := by
  cases p <;> cases n <;> cases m <;> kernel_rfl
theorem attr_facts {a : api_Attr} (h : okA a = true) : attr_Put.m KK a = some (putA a, GoErr.nil) ∧ attr_Put.m KK a = some (putA a, GoErr.nil) ∧ True ∧ 0 ≤ putA a ∧ putA a ≤ 255 := by
  obtain ⟨p, n, s, m⟩ := a
  obtain ⟨h0, h1⟩ := okA_iff.1 h
  have := allN (N := 4) (p := fun s => (attr_Put.m KK ⟨p, n, s, m⟩ == some (putA ⟨p, n, s, m⟩, GoErr.nil)) && (attr_Put.m KK ⟨p, n, s, m⟩ == some (putA ⟨p, n, s, m⟩, GoErr.nil))
    && true && decide (0 ≤ putA ⟨p, n, s, m⟩) && decide (putA ⟨p, n, s, m⟩ ≤ 255)) (attr_all p n m) (x := s) h0 (by simp only at h1; omega)
  simp only [Bool.and_eq_true, beq_iff_eq, decide_eq_true_eq] at this
  exact ⟨this.1.1.1.1, this.1.1.1.2, this.1.1.2, this.1.2, this.2⟩
theorem attrput_eq (a : api_Attr) : attr_Put.m KK a = some (if okA a then (putA a, GoErr.nil) else (0, GoErr.no 1)) := by
  by_cases h : okA a = true
  · rw [if_pos h]; exact (attr_facts h).1
  · rw [if_neg h]
    unfold attr_Put.m
    have hn : ¬ (0 ≤ a.Show ∧ a.Show ≤ 3) := fun x => h (okA_iff.2 x)
    by_cases h0 : a.Show < 0
    · rw [if_pos h0]
    · rw [if_neg h0, if_pos (by omega)]
theorem odd_eq (b : Int) : order_Right_1.m b = some (!chr b) := by unfold order_Right_1.m; rw [char_eq]; rfl
theorem indexo_eq {l : List Int} (hl : l.length ≤ 100000) : slices_IndexFunc_bytes__order_Right_1.m KK l = some (if cnt l < l.length then (cnt l : Int) else -1) := by
  have step : ∀ (k : Nat) (i : Int), 0 ≤ i → i ≤ (l.length : Int) → (l.length : Int) - i < k →
      slices_IndexFunc_bytes__order_Right_1.l1.m KK l k i = some (if i + cnt (l.drop i.toNat) < l.length then .inl (i + cnt (l.drop i.toNat)) else .inr ()) := by
    intro k
    induction k with
    | zero => intro i h0 h1 h2; omega
    | succ k ih =>
      intro i h0 h1 h2
      rw [slices_IndexFunc_bytes__order_Right_1.l1.m]
      by_cases h3 : i < (l.length : Int)
      · simp only [letJ, h3, h0, if_true, cond_true, order_Right_1.m, char_eq, Option.bind_some]
        rw [drop_at h0 h3]
        unfold cnt
        rw [List.takeWhile_cons]
        cases hc : chr (at_ l i) with
        | false => simp [h3]
        | true =>
          simp only [Bool.not_true, cond_false, if_true, List.length_cons]
          rw [w64_id (n := i + 1) (by omega) (by omega), ih (i + 1) (by omega) (by omega) (by omega)]
          unfold cnt
          have : i + 1 + ((List.takeWhile chr (List.drop (i + 1).toNat l)).length : Int) = i + (((List.takeWhile chr (List.drop (i + 1).toNat l)).length + 1 : Nat) : Int) := by omega
          rw [this]
      · have : i = (l.length : Int) := by omega
        subst this
        simp [letJ, cnt]
  unfold slices_IndexFunc_bytes__order_Right_1.m
  rw [step KK 0 (by omega) (by omega) (by unfold KK; omega), Option.bind_some]
  simp only [Int.toNat_zero, List.drop_zero, Int.zero_add]
  by_cases h : cnt l < l.length
  · rw [if_pos (by omega), if_pos h]
  · rw [if_neg (by omega), if_neg h]
theorem cnt_all {l : List Int} : cnt l < l.length ↔ l.all chr = false := by
  unfold cnt
  induction l with
  | nil => simp
  | cons x l ih =>
    rw [List.takeWhile_cons, List.all_cons]
    cases hc : chr x with
    | false => simp
    | true => simp only [if_true, List.length_cons, Nat.add_lt_add_iff_right, Bool.true_and]; exact ih
theorem contains_eq {l : List Int} (hl : l.length ≤ 100000) : slices_ContainsFunc_bytes__order_Right_1.m KK l = some (!l.all chr) := by
  unfold slices_ContainsFunc_bytes__order_Right_1.m
  rw [indexo_eq hl, Option.bind_some]
  congr 1
  by_cases h : cnt l < l.length
  · rw [if_pos h, cnt_all.1 h]; simp
  · rw [if_neg h]
    cases ha : l.all chr with
    | false => exact absurd (cnt_all.2 ha) h
    | true => rfl
def addrW (a n : Int) : Int := if a < 0 ∨ a ≥ n then 4 else 0
def wrongOf (o : api_Order) (n : Int) : Int :=
  if o.Kind < 1 ∨ o.Kind > 7 then 5
  else if (decide (o.Kind = 1) != decide (o.Text ≠ [])) || !o.Text.all chr then 1
  else if (if o.Kind = 2 then !okA o.Attr else o.Attr != zAt) then 1
  else if (if o.Kind = 6 then !chr o.Char else o.Char != 0) then 1
  else if o.Kind = 3 ∨ o.Kind = 6 ∨ o.Kind = 7 then addrW o.Addr n
  else if o.Addr = 0 then 0 else 1
def errOf (k : Int) : GoErr := if k = 0 then .nil else .no k
theorem kinds {k : Int} (h1 : ¬ k < 1) (h2 : ¬ k > 7) : k = 1 ∨ k = 2 ∨ k = 3 ∨ k = 4 ∨ k = 5 ∨ k = 6 ∨ k = 7 := by omega
theorem len_pos {l : List Int} : decide ((l.length : Int) > 0) = decide (l ≠ []) := by
  cases l <;> simp
theorem attr_beq (a : api_Attr) : ((a.Protected == false) && ((a.Numeric == false) && ((a.Show == 0) && ((a.Modified == false) && true)))) = !(a != zAt) := by
  obtain ⟨p, n, s, m⟩ := a
  rw [Bool.eq_iff_iff]
  simp [zAt, bne]
theorem has_1 : order_has.m 1 = some (true, false, false, false) := rfl
theorem has_2 : order_has.m 2 = some (false, true, false, false) := rfl
theorem has_3 : order_has.m 3 = some (false, false, true, false) := rfl
theorem has_4 : order_has.m 4 = some (false, false, false, false) := rfl
theorem has_5 : order_has.m 5 = some (false, false, false, false) := rfl
theorem has_6 : order_has.m 6 = some (false, false, true, true) := rfl
theorem has_7 : order_has.m 7 = some (false, false, true, false) := rfl
theorem right_eq {o : api_Order} {n : Int} (ht : o.Text.length ≤ 100000) : order_Right.m KK o n = some (errOf (wrongOf o n)) := by
  obtain ⟨k, t, a, ad, ch⟩ := o
  unfold order_Right.m wrongOf
  simp only at ht ⊢
  by_cases h1 : k < 1
  · simp [h1, errOf]
  · by_cases h2 : k > 7
    · simp [h1, h2, errOf]
    · simp only [h1, h2, if_false, or_self, letJ, attrput_eq, contains_eq ht, odd_eq, attr_beq, len_pos]
      generalize decide (t ≠ []) = b1
      generalize t.all chr = b2
      generalize (a != zAt) = b3
      generalize okA a = b4
      generalize chr ch = b5
      rcases kinds h1 h2 with rfl | rfl | rfl | rfl | rfl | rfl | rfl
      · simp only [has_1, Option.bind_some]
        cases b1 <;> cases b2 <;> cases b3 <;> simp [errOf, addrW] <;> (by_cases hc : ch = 0 <;> by_cases ha : ad = 0 <;> simp [hc, ha, errOf])
      · simp only [has_2, Option.bind_some]
        cases b1 <;> cases b2 <;> cases b4 <;> simp [errOf, addrW] <;> (by_cases hc : ch = 0 <;> by_cases ha : ad = 0 <;> simp [hc, ha, errOf])
      · simp only [has_3, Option.bind_some]
        cases b1 <;> cases b2 <;> cases b3 <;> simp [errOf, addrW] <;> (by_cases hc : ch = 0 <;> by_cases h3 : ad < 0 <;> by_cases h4 : n ≤ ad <;> simp [hc, h3, h4, errOf, addrW])
      · simp only [has_4, Option.bind_some]
        cases b1 <;> cases b2 <;> cases b3 <;> simp [errOf, addrW] <;> (by_cases hc : ch = 0 <;> by_cases ha : ad = 0 <;> simp [hc, ha, errOf])
      · simp only [has_5, Option.bind_some]
        cases b1 <;> cases b2 <;> cases b3 <;> simp [errOf, addrW] <;> (by_cases hc : ch = 0 <;> by_cases ha : ad = 0 <;> simp [hc, ha, errOf])
      · simp only [has_6, Option.bind_some]
        cases b1 <;> cases b2 <;> cases b3 <;> cases b5 <;> simp [errOf, addrW] <;> (by_cases hc : ch = 0 <;> by_cases h3 : ad < 0 <;> by_cases h4 : n ≤ ad <;> simp [hc, h3, h4, errOf, addrW])
      · simp only [has_7, Option.bind_some]
        cases b1 <;> cases b2 <;> cases b3 <;> simp [errOf, addrW] <;> (by_cases hc : ch = 0 <;> by_cases h3 : ad < 0 <;> by_cases h4 : n ≤ ad <;> simp [hc, h3, h4, errOf, addrW])
end Go.Proofs.YtjkbhpokboolpaaGreatDoor.Sx

namespace Go.Proofs.YtjkbhpokboolpaaGreatDoor.Sx
open Go
def zO : api_Order := ⟨0, [], ⟨false, false, 0, false⟩, 0, 0⟩
structure RightO (o : api_Order) (n : Int) : Prop where
  lo : 1 ≤ o.Kind
  hi : o.Kind ≤ 7
  text : o.Kind = 1 ↔ o.Text ≠ []
  chars : o.Text.all chr = true
  attr : o.Kind = 2 → okA o.Attr = true
  noattr : o.Kind ≠ 2 → o.Attr = zAt
  char : o.Kind = 6 → chr o.Char = true
  nochar : o.Kind ≠ 6 → o.Char = 0
  addr : o.Kind = 3 ∨ o.Kind = 6 ∨ o.Kind = 7 → 0 ≤ o.Addr ∧ o.Addr < n
  noaddr : ¬ (o.Kind = 3 ∨ o.Kind = 6 ∨ o.Kind = 7) → o.Addr = 0
theorem right_iff {o : api_Order} {n : Int} : wrongOf o n = 0 ↔ RightO o n := by
  constructor
  · intro h
    unfold wrongOf at h
    by_cases h1 : o.Kind < 1 ∨ o.Kind > 7
    · rw [if_pos h1] at h; omega
    rw [if_neg h1] at h
    by_cases h2 : ((decide (o.Kind = 1) != decide (o.Text ≠ [])) || !o.Text.all chr) = true
    · rw [if_pos h2] at h; omega
    rw [if_neg h2] at h
    by_cases h3 : (if o.Kind = 2 then !okA o.Attr else o.Attr != zAt) = true
    · rw [if_pos h3] at h; omega
    rw [if_neg h3] at h
    by_cases h4 : (if o.Kind = 6 then !chr o.Char else o.Char != 0) = true
    · rw [if_pos h4] at h; omega
    rw [if_neg h4] at h
    simp only [Bool.or_eq_true, not_or, Bool.not_eq_true, Bool.not_eq_false'] at h2
    refine ⟨by omega, by omega, ?_, h2.2, ?_, ?_, ?_, ?_, ?_, ?_⟩
    · have := h2.1
      simp only [bne_eq_false_iff_eq, decide_eq_decide] at this
      exact this
    · intro e; rw [if_pos e] at h3; simpa using h3
    · intro e; rw [if_neg e] at h3; simpa using h3
    · intro e; rw [if_pos e] at h4; simpa using h4
    · intro e; rw [if_neg e] at h4; simpa using h4
    · intro e; rw [if_pos e] at h; unfold addrW at h; split at h <;> omega
    · intro e; rw [if_neg e] at h; split at h <;> first | assumption | omega
  · intro r
    unfold wrongOf
    have := r.lo; have := r.hi
    rw [if_neg (by omega), if_neg, if_neg, if_neg]
    · split
      · rename_i e; have := r.addr e; unfold addrW; rw [if_neg (by omega)]
      · rename_i e; rw [if_pos (r.noaddr e)]
    · split
      · rename_i e; simp [r.char e]
      · rename_i e; simp [r.nochar e]
    · split
      · rename_i e; simp [r.attr e]
      · rename_i e; simp [r.noattr e]
    · have h1 : decide (o.Kind = 1) = decide (o.Text ≠ []) := by rw [decide_eq_decide]; exact r.text
      rw [h1, r.chars]; simp
def putO (o : api_Order) (n : Int) : List Int :=
  if o.Kind = 1 then o.Text else if o.Kind = 2 then [29, putA o.Attr] else if o.Kind = 4 then [19] else if o.Kind = 5 then [5]
  else if o.Kind = 3 then 17 :: putOf o.Addr n else if o.Kind = 7 then 18 :: putOf o.Addr n else 60 :: (putOf o.Addr n ++ [o.Char])
theorem app_ok {α : Type} {l m : List α} (h : l.length + m.length ≤ 1000000) : app l m = some (l ++ m) := by unfold app Lim; rw [if_pos (by omega)]
theorem oput_eq {o : api_Order} {n : Int} (ht : o.Text.length ≤ 100000) (n1 : 1 ≤ n) (n2 : n ≤ 16383) :
    order_Put.m KK o n = some (if wrongOf o n = 0 then (putO o n, GoErr.nil) else ([], .no (wrongOf o n))) := by
  unfold order_Put.m
  rw [right_eq ht, Option.bind_some]
  by_cases hw : wrongOf o n = 0
  · have r := right_iff.1 hw
    rw [hw, if_pos rfl, if_pos (show errOf 0 = .nil from rfl)]
    obtain ⟨k, t, a, ad, ch⟩ := o
    have h1 := r.lo; have h2 := r.hi
    have ra := r.attr; have rp := r.addr
    simp only at h1 h2 ht ra rp ⊢
    unfold putO
    rcases kinds (k := k) (by omega) (by omega) with rfl | rfl | rfl | rfl | rfl | rfl | rfl
    · simp [clone_eq ht]
    · simp [order_byteOf.m, at_, letJ, (attr_facts (ra rfl)).1, app, Lim]
    · obtain ⟨p1, p2⟩ := rp (by simp)
      simp [order_byteOf.m, at_, letJ, put04 n1 n2 p1 p2, app, Lim, put_len]
    · simp [order_byteOf.m, at_, letJ]
    · simp [order_byteOf.m, at_, letJ]
    · obtain ⟨p1, p2⟩ := rp (by simp)
      simp [order_byteOf.m, at_, letJ, put04 n1 n2 p1 p2, app, Lim, put_len]
    · obtain ⟨p1, p2⟩ := rp (by simp)
      simp [order_byteOf.m, at_, letJ, put04 n1 n2 p1 p2, app, Lim, put_len]
  · have : errOf (wrongOf o n) = .no (wrongOf o n) := by unfold errOf; rw [if_neg hw]
    rw [this, if_neg (by simp), if_neg hw]
end Go.Proofs.YtjkbhpokboolpaaGreatDoor.Sx

namespace Go.Proofs.YtjkbhpokboolpaaGreatDoor.Sx
open Go
def kindOf (b : Int) : Int := if b = 29 then 2 else if b = 17 then 3 else if b = 19 then 4 else if b = 5 then 5 else if b = 60 then 6 else if b = 18 then 7 else 0
def curOf (b : List Int) (g : api_Order × Int × GoErr) : bytes_Cursor := ⟨b, g.2.1, if g.2.2 = .nil then .nil else .spot g.2.1 g.2.2⟩
def whereO (g : api_Order × Int × GoErr) : Int := if g.2.2 = .nil then -1 else g.2.1
end Go.Proofs.YtjkbhpokboolpaaGreatDoor.Sx

namespace Go.Proofs.YtjkbhpokboolpaaGreatDoor.Sx
open Go
theorem drop_nil {b : List Int} {p : Int} (h : p = (b.length : Int)) : b.drop p.toNat = [] := List.drop_eq_nil_of_le (by omega)
theorem putO_le {o : api_Order} {n : Int} : (putO o n).length ≤ o.Text.length + 4 := by
  unfold putO
  repeat' split
  all_goals first | omega | (simp [put_len]) | (simp [put_len]; omega)
end Go.Proofs.YtjkbhpokboolpaaGreatDoor.Sx
