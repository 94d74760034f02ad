/- Plain facts: the laws of package order that hand out no code. -/
import Derived.Test.YtociikgdocjfnaaPF
namespace Go.Proofs.Ytociikgdocjfnaa.Sx
open Go

theorem equal_eq {a b : List Int} (ha : a.length ≤ 100000) : slices_Equal_bytes.m KK a b = some (a == b) := by
  unfold slices_Equal_bytes.m
  by_cases hl : (a.length : Int) = (b.length : Int)
  · rw [if_pos hl]
    have step : ∀ (k : Nat) (i : Int), 0 ≤ i → i ≤ (a.length : Int) → (a.length : Int) - i < k →
        slices_Equal_bytes.l1.m KK a b k i = some (if a.drop i.toNat = b.drop i.toNat then .inr () else .inl false) := by
      intro k
      induction k with
      | zero => intro i h0 h1 h2; omega
      | succ k ih =>
        intro i h0 h1 h2
        rw [slices_Equal_bytes.l1.m]
        simp only [letJ]
        by_cases h3 : i < (a.length : Int)
        · rw [if_pos h3, cond_true, if_pos h0, if_pos h3, if_pos (by omega), drop_at h0 h3, drop_at (l := b) h0 (by omega)]
          by_cases he : at_ a i = at_ b i
          · rw [if_pos he, w64_id (n := i + 1) (by omega) (by omega), ih (i + 1) (by omega) (by omega) (by omega), he]
            simp only [List.cons.injEq, true_and]
          · rw [if_neg he, if_neg (by simp [he])]
        · rw [if_neg h3, cond_false, if_pos]
          rw [List.drop_eq_nil_of_le (by omega), List.drop_eq_nil_of_le (by omega)]
    rw [step KK 0 (by omega) (by omega) (by unfold KK; omega), Option.bind_some]
    simp only [Int.toNat_zero, List.drop_zero]
    by_cases h : a = b
    · rw [if_pos h]; simp [h]
    · rw [if_neg h]; simp [h]
  · rw [if_neg hl]
    have : a ≠ b := fun e => hl (by rw [e])
    simp [this]
theorem sameO_eq {a b : api_Order} (ha : a.Text.length ≤ 100000) : order_Same.m KK a b = some (a == b) := by
  unfold order_Same.m
  rw [equal_eq ha, Option.bind_some, attrb_eq]
  obtain ⟨k, t, at', ad, ch⟩ := a
  obtain ⟨k', t', at'', ad', ch'⟩ := b
  simp only
  have e : ((⟨k, t, at', ad, ch⟩ : api_Order) == ⟨k', t', at'', ad', ch'⟩) = (decide (k = k') && (t == t') && (at' == at'') && decide (ad = ad') && (ch == ch')) := by
    rw [Bool.eq_iff_iff]
    simp [and_assoc]
  rw [e]
  by_cases h1 : k = k' <;> cases t == t' <;> cases at' == at'' <;> by_cases h4 : ad = ad' <;> simp [h1, h4]

theorem len_putO {o : api_Order} {n : Int} (r : RightO o n) : ((putO o n).length : Int) = (o.Text.length : Int) + at_ [0, 0, 2, 3, 1, 1, 4, 3] o.Kind := by
  have h1 := r.lo; have h2 := r.hi; have ht := r.text
  obtain ⟨k, t, a, ad, ch⟩ := o
  simp only at h1 h2 ht ⊢
  unfold putO
  rcases kinds (k := k) (by omega) (by omega) with rfl | rfl | rfl | rfl | rfl | rfl | rfl
  · simp [at_]
  all_goals
    have : t = [] := by
      cases t with
      | nil => rfl
      | cons x y => exact absurd (ht.2 (by simp)) (by decide)
    subst this
    simp [at_, put_len]

theorem wf8 {x : Int} (h0 : 0 ≤ x) (h1 : x ≤ 255) : Wf .u8 x := by
  unfold Wf
  simp [Lit.wf, IntKind.min, IntKind.max, IntKind.signed, IntKind.bits]
  omega
theorem putO_u8 {o : api_Order} {n : Int} (n2 : n ≤ 16383) (r : RightO o n) (ht : ∀ y ∈ o.Text, Wf .u8 y) (hc : Wf .u8 o.Char) : ∀ y ∈ putO o n, Wf .u8 y := by
  have h1 := r.lo; have h2 := r.hi; have ra := r.attr; have rp := r.addr
  obtain ⟨k, t, a, ad, ch⟩ := o
  simp only at h1 h2 ra rp ht hc ⊢
  unfold putO
  rcases kinds (k := k) (by omega) (by omega) with rfl | rfl | rfl | rfl | rfl | rfl | rfl
  · simpa using ht
  · intro y hy
    simp at hy
    rcases hy with rfl | rfl
    · exact wf8 (by omega) (by omega)
    · exact wf8 (attr_facts (ra rfl)).2.2.2.1 (attr_facts (ra rfl)).2.2.2.2
  · obtain ⟨p1, p2⟩ := rp (by simp)
    intro y hy
    simp at hy
    rcases hy with rfl | hy
    · exact wf8 (by omega) (by omega)
    · exact put_u8 n2 p1 p2 y hy
  · intro y hy
    simp at hy
    subst hy
    exact wf8 (by omega) (by omega)
  · intro y hy
    simp at hy
    subst hy
    exact wf8 (by omega) (by omega)
  · obtain ⟨p1, p2⟩ := rp (by simp)
    intro y hy
    simp at hy
    rcases hy with rfl | hy | rfl
    · exact wf8 (by omega) (by omega)
    · exact put_u8 n2 p1 p2 y hy
    · exact hc
  · obtain ⟨p1, p2⟩ := rp (by simp)
    intro y hy
    simp at hy
    rcases hy with rfl | hy
    · exact wf8 (by omega) (by omega)
    · exact put_u8 n2 p1 p2 y hy

theorem putO_eq {o p : api_Order} {n : Int} (n1 : 1 ≤ n) (n2 : n ≤ 16383) (r : RightO o n) (q : RightO p n) : (putO o n == putO p n) = (o == p) := by
  have a := gS_put r n1 n2 [] (fun _ => rfl)
  have b := gS_put q n1 n2 [] (fun _ => rfl)
  by_cases h : putO o n = putO p n
  · rw [h, b] at a
    simp only [Prod.mk.injEq] at a
    rw [a.1]; simp
  · have : o ≠ p := fun e => h (by rw [e])
    have h1 : (putO o n == putO p n) = false := by simpa using h
    have h2 : (o == p) = false := by simpa using this
    rw [h1, h2]

theorem OrderBack_true (x0 : api_Order) (x1 : api_Order) (x2 : Int) (x3 : (List Int)) (w0 : ok_api_Order x0) (_ : ok_api_Order x1) (w2 : Wf .u16 x2) (w3 : ∀ y ∈ x3, Wf .u8 y) (_ : x3.length ≤ maxLen) : shutterlaw07_OrderBack.m KK x0 x1 x2 x3 = some true := by
  have hu := b_u16 w2
  have n1 : 1 ≤ 1 + x2 % 16383 := by omega
  have n2 : 1 + x2 % 16383 ≤ 16383 := by omega
  unfold shutterlaw07_OrderBack.m
  rw [awake07, Option.bind_some, cond_true]
  split
  · rfl
  split
  · rfl
  split
  · rfl
  rename_i hl0 hl1 hl3
  have t0 : x0.Text.length ≤ 100000 := by omega
  have t1 : x1.Text.length ≤ 100000 := by omega
  simp only [size07 w2, Option.bind_some, oput_eq t0 n1 n2, oput_eq t1 n1 n2]
  generalize 1 + x2 % 16383 = n at n1 n2 ⊢
  by_cases h0 : wrongOf x0 n = 0
  · by_cases h1 : wrongOf x1 n = 0
    · have r0 := right_iff.1 h0
      have r1 := right_iff.1 h1
      have hp := putO_le (o := x0) (n := n)
      simp only [if_pos h0, if_pos h1, if_true]
      rw [same_eq (by omega), Option.bind_some, sameO_eq t0, Option.bind_some, putO_eq n1 n2 r0 r1]
      simp only [bne_self_eq_false, cond_false, Option.bind_some, refsameO t0]
      have a1 : app [19] x3 = some (19 :: x3) := by rw [app_ok (by simp only [List.length_cons, List.length_nil]; omega)]; rfl
      have a2 : app [] (putO x0 n) = some (putO x0 n) := by rw [app_ok (by simp only [List.length_nil]; omega)]; rfl
      have a3 : app (putO x0 n) (19 :: x3) = some (putO x0 n ++ 19 :: x3) := by rw [app_ok (by simp only [List.length_cons]; omega)]
      have hlen : (putO x0 n ++ 19 :: x3).length = (putO x0 n).length + (x3.length + 1) := by simp
      simp only [a1, a2, a3, Option.bind_some, new_eq (show (putO x0 n ++ 19 :: x3).length ≤ 100000 by omega)]
      have ok : CurOk ⟨putO x0 n ++ 19 :: x3, 0, .nil⟩ := by
        refine ⟨Int.le_refl _, by simp only; omega, by simp only; omega, ?_⟩
        intro y hy
        simp only [List.mem_append, List.mem_cons] at hy
        rcases hy with hy | rfl | hy
        · exact putO_u8 n2 r0 w0.2.1.1 w0.2.2.2.2 y hy
        · exact wf8 (by omega) (by omega)
        · exact w3 y hy
      have g := gS_put r0 n1 n2 (19 :: x3) (fun _ => by rw [cnt_cons]; rfl)
      have e : getC ⟨putO x0 n ++ 19 :: x3, 0, .nil⟩ n = (x0, ⟨putO x0 n ++ 19 :: x3, ((putO x0 n).length : Int), .nil⟩) := by
        unfold getC curOf
        simp only [if_true]
        rw [gO_gS (Int.le_refl 0) (by omega)]
        simp only [Int.toNat_zero, List.drop_zero, g, if_true, Int.zero_add]
      have ok' : CurOk ⟨putO x0 n ++ 19 :: x3, ((putO x0 n).length : Int), .nil⟩ := ⟨by simp only; omega, by simp only; omega, ok.h2, ok.u8⟩
      rw [oget_eq ok, Option.bind_some, e, err_eq, Option.bind_some]
      simp only [if_true, sameO_eq t0, beq_self_eq_true, Option.bind_some, cond_true, left_eq ok', hlen, List.length_cons]
      congr 1
      simp only [beq_iff_eq]
      omega
    · simp only [if_pos h0, if_neg h1, if_true]
      rw [if_neg (by simp)]
  · simp only [if_neg h0]
    rw [if_neg (by simp)]

theorem xor_loop : ∀ (k : Nat) (l : List Int) (i : Int), 0 ≤ i → i ≤ (l.length : Int) → (l.length : Int) - i < k → l.length ≤ 100000 → shutterlaw07_OrderKeeps.l1.m KK k l i = some () := by
  intro k
  induction k with
  | zero => intro l i h0 h1 h2; omega
  | succ k ih =>
    intro l i h0 h1 h2 h4
    rw [shutterlaw07_OrderKeeps.l1.m]
    by_cases h3 : i < (l.length : Int)
    · rw [if_pos h3, if_pos h0, w64_id (n := i + 1) (by omega) (by omega)]
      exact ih _ _ (by omega) (by rw [List.length_set]; omega) (by rw [List.length_set]; omega) (by rw [List.length_set]; exact h4)
    · rw [if_neg h3]

theorem OrderKeeps_true (x0 : (List Int)) (_ : ∀ y ∈ x0, Wf .u8 y) (_ : x0.length ≤ maxLen) : shutterlaw07_OrderKeeps.m KK x0 = some true := by
  unfold shutterlaw07_OrderKeeps.m
  rw [awake07, Option.bind_some, cond_true]
  split
  · rfl
  rename_i hl
  have a2 : app [] x0 = some x0 := by rw [app_ok (by simp only [List.length_nil]; omega)]; rfl
  have t0 : (⟨1, x0, (⟨false, false, 0, false⟩ : api_Attr), 0, 0⟩ : api_Order).Text.length ≤ 100000 := by simp only; omega
  simp only [a2, Option.bind_some, oput_eq t0 (show (1 : Int) ≤ 80 by decide) (show (80 : Int) ≤ 16383 by decide)]
  by_cases hw : wrongOf (⟨1, x0, (⟨false, false, 0, false⟩ : api_Attr), 0, 0⟩ : api_Order) 80 = 0
  · have e : putO (⟨1, x0, (⟨false, false, 0, false⟩ : api_Attr), 0, 0⟩ : api_Order) 80 = x0 := rfl
    simp only [if_pos hw, e]
    rw [xor_loop KK x0 0 (by omega) (by omega) (by unfold KK; omega) (by omega)]
    simp only [Option.bind_some, same_eq (show x0.length ≤ 100000 by omega), beq_self_eq_true, cond_true, if_true]
  · simp only [if_neg hw]
    rw [xor_loop KK [] 0 (by omega) (by simp) (by simp [KK]) (by simp)]
    simp only [Option.bind_some, same_eq (show x0.length ≤ 100000 by omega), beq_self_eq_true, cond_true]
    rw [if_neg (by simp), if_neg (by simp)]

theorem OrderLengths_true (x0 : api_Order) (x1 : Int) (_ : ok_api_Order x0) (w1 : Wf .u16 x1) : shutterlaw07_OrderLengths.m KK x0 x1 = some true := by
  have hu := b_u16 w1
  have n1 : 1 ≤ 1 + x1 % 16383 := by omega
  have n2 : 1 + x1 % 16383 ≤ 16383 := by omega
  unfold shutterlaw07_OrderLengths.m
  rw [awake07, Option.bind_some, cond_true]
  split
  · rfl
  rename_i hl0
  have t0 : x0.Text.length ≤ 100000 := by omega
  simp only [size07 w1, Option.bind_some, oput_eq t0 n1 n2]
  generalize 1 + x1 % 16383 = n at n1 n2 ⊢
  by_cases h0 : wrongOf x0 n = 0
  · have r := right_iff.1 h0
    have h1 := r.lo; have h2 := r.hi
    simp only [if_pos h0, if_true, List.length_cons, List.length_nil]
    rw [if_pos (by omega), if_pos (by omega), if_pos (by omega)]
    have hlen := len_putO r
    have ht := r.text
    obtain ⟨k, t, a, ad, ch⟩ := x0
    simp only at h1 h2 hlen ht ⊢
    rcases kinds (k := k) (by omega) (by omega) with rfl | rfl | rfl | rfl | rfl | rfl | rfl
    · rw [if_pos (by rw [hlen]; simp [at_])]; rfl
    all_goals
      have : t = [] := by
        cases t with
        | nil => rfl
        | cons x y => exact absurd (ht.2 (by simp)) (by decide)
      subst this
      rw [if_pos (by rw [hlen]; simp [at_]), if_neg (by decide), if_pos (by rw [hlen]; simp [at_])]
      rfl
  · simp only [if_neg h0]
    rw [if_neg (by simp)]
    rfl
end Go.Proofs.Ytociikgdocjfnaa.Sx
