/- Package 02's laws. -/
import Derived.Test.YtooaghempnlclaaPY
import Derived.Test.YtooaghempnlclaaPRa
namespace Go.Proofs.Ytooaghempnlclaa.Sx
open Go
set_option maxRecDepth 100000

theorem sub_ok {l : List Int} (wl : ∀ y ∈ l, Wf .u8 y) (lo hi : Int) : ∀ y ∈ sub l lo hi, Wf .u8 y := fun y hy => by
  unfold sub at hy; exact wl y (List.mem_of_mem_drop (List.mem_of_mem_take hy))
theorem sub_parts {l : List Int} {k : Int} (h0 : 0 ≤ k) (h1 : k ≤ (l.length : Int)) : [sub l 0 k, sub l k (l.length : Int)].flatten = l := by
  obtain ⟨n, rfl⟩ := Int.eq_ofNat_of_zero_le h0
  rw [sub_take (by omega), sub_drop (by omega)]
  simp
theorem MacCodes_true (x0 : (List Int)) (x1 : (List Int)) (x2 : Int) (w0 : ∀ y ∈ x0, Wf .u8 y) (_ : x0.length ≤ maxLen) (w1 : ∀ y ∈ x1, Wf .u8 y) (_ : x1.length ≤ maxLen) (w2 : Wf .u16 x2) : shutterlaw02_MacCodes.m KK x0 x1 x2 = some true := by
  have b := b_u16 w2
  unfold shutterlaw02_MacCodes.m
  rw [awake_eq, Option.bind_some, cond_true]
  by_cases h0 : (x0.length : Int) > 200
  · rw [if_pos h0, Option.bind_some]
  · rw [if_neg h0]
    by_cases h1 : (x1.length : Int) > 300
    · rw [if_pos h1, Option.bind_some]
    · rw [if_neg h1, w64_id (n := (x1.length : Int) + 1) (by omega) (by omega), w64_id (n := x2) (by omega) (by omega), if_pos (by omega), Int.tmod_eq_emod_of_nonneg b.1]
      simp only [letJ]
      have q0 : 0 ≤ x2 % ((x1.length : Int) + 1) := Int.emod_nonneg _ (by omega)
      have q1 : x2 % ((x1.length : Int) + 1) ≤ (x1.length : Int) := by have := Int.emod_lt_of_pos x2 (show 0 < (x1.length : Int) + 1 by omega); omega
      generalize x2 % ((x1.length : Int) + 1) = k at *
      have hf := sub_parts q0 q1
      have hw : ∀ y ∈ [sub x1 0 k, sub x1 k (x1.length : Int)].flatten, Wf .u8 y := by rw [hf]; exact w1
      have hh := hmac_ok w0 w1
      have hs : (sub (hmac x0 x1) 0 16).length = 16 := by rw [sub_length (by omega)]; rfl
      rw [if_pos q0, if_pos q1, tag_eq (by omega) w0 (by simp) (by rw [hf]; omega) hw, hf, Option.bind_some, if_pos q0, if_pos q1, code_eq (by omega) w0 (by simp) (by rw [hf]; omega) hw, hf, Option.bind_some, refcode_eq (by omega) w0 (by omega) w1, Option.bind_some,
        beq_self_eq_true, cond_true, reftag_eq (by omega) w0 (by omega) w1, Option.bind_some, same_eq (by omega), Option.bind_some, beq_self_eq_true]

theorem kpad_zero {x : List Int} (h : x.length ≤ 63) : kpad (x ++ [0]) = kpad x := by
  have e1 : keyOf x = x := by unfold keyOf; rw [if_neg (by omega)]
  have e2 : keyOf (x ++ [0]) = x ++ [0] := by unfold keyOf; rw [if_neg (by simp; omega)]
  unfold kpad
  rw [e1, e2, show 64 - x.length = (64 - (x ++ [0]).length) + 1 by simp; omega, List.replicate_succ, List.append_assoc]; rfl
theorem hmac_pad {k k' t : List Int} (h : kpad k = kpad k') : hmac k t = hmac k' t := by unfold hmac xk; rw [h]
theorem parts_loop {ps : List (List Int)} (hps : ps.length ≤ 20) : ∀ (k : Nat) (a : List Int) (i : Int), 0 ≤ i → i ≤ (ps.length : Int) → (ps.length : Int) - i < (k : Int) → a.length ≤ 100 * i.toNat →
    shutterlaw02_MacKeys.l1.m KK ps k a i = some (.inl true) ∨ (shutterlaw02_MacKeys.l1.m KK ps k a i = some (.inr (a ++ (ps.drop i.toNat).flatten)) ∧ (a ++ (ps.drop i.toNat).flatten).length ≤ 2000) := by
  intro k
  induction k with
  | zero => intro a i _ _ h; omega
  | succ k ih =>
    intro a i i0 i1 hk ha
    rw [shutterlaw02_MacKeys.l1.m]
    by_cases h3 : i < (ps.length : Int)
    · rw [if_pos h3, if_pos i0]
      by_cases h4 : ((at_ ps i).length : Int) > 100
      · rw [if_pos h4]; exact .inl rfl
      · rw [if_neg h4, app_ok (by omega), Option.bind_some, w64_id (n := i + 1) (by omega) (by omega), dropA i0 h3, List.flatten_cons, ← List.append_assoc]
        exact ih _ (i + 1) (by omega) (by omega) (by omega) (by rw [List.length_append]; omega)
    · rw [if_neg h3, List.drop_eq_nil_of_le (by omega)]
      refine .inr ⟨by simp, ?_⟩
      simp; omega
theorem MacKeys_true (x0 : (List Int)) (x1 : (List (List Int))) (w0 : ∀ y ∈ x0, Wf .u8 y) (_ : x0.length ≤ maxLen) (w1 : ∀ y ∈ x1, (fun l => (∀ x ∈ l, Wf .u8 x) ∧ l.length ≤ maxLen) y) (_ : x1.length ≤ maxLen) : shutterlaw02_MacKeys.m KK x0 x1 = some true := by
  unfold shutterlaw02_MacKeys.m
  rw [awake_eq, Option.bind_some, cond_true]
  by_cases h0 : (x0.length : Int) > 63
  · rw [if_pos h0, Option.bind_some]
  · rw [if_neg h0]
    by_cases h1 : (x1.length : Int) > 20
    · rw [if_pos h1, Option.bind_some]
    · rw [if_neg h1]
      have wf : ∀ y ∈ x1.flatten, Wf .u8 y := fun y hy => by
        obtain ⟨l, hl, hy⟩ := List.mem_flatten.1 hy
        exact (w1 l hl).1 y hy
      rcases parts_loop (ps := x1) (by omega) KK [] 0 (by omega) (by omega) (by unfold KK; omega) (by simp) with e | ⟨e, hl⟩
      · rw [e, Option.bind_some]
      · simp only [Int.toNat_zero, List.drop_zero, List.nil_append] at e hl
        have w2 := bytes_app w0 (b := [0]) (fun y hy => by obtain rfl := List.mem_singleton.1 hy; exact wf_num (by omega) (by omega))
        have f : [x1.flatten].flatten = x1.flatten := by simp
        rw [e, Option.bind_some]
        simp only
        rw [app_ok (by simp; omega), Option.bind_some, List.nil_append, app_ok (by simp; omega), Option.bind_some, code_eq (by omega) w0 (by omega) (by omega) wf, Option.bind_some, code_eq (k := x0 ++ [0]) (by simp; omega) w2 (by simp) (by rw [f]; omega) (by rw [f]; exact wf), Option.bind_some, f,
          hmac_pad (kpad_zero (x := x0) (by omega)), beq_self_eq_true, cond_true, tag_eq (by omega) w0 (by omega) (by omega) wf, Option.bind_some, tag_eq (by omega) w0 (by simp) (by rw [f]; omega) (by rw [f]; exact wf), Option.bind_some, f, beq_self_eq_true]
theorem MacKeeps_true (x0 : (List Int)) (x1 : (List Int)) (w0 : ∀ y ∈ x0, Wf .u8 y) (_ : x0.length ≤ maxLen) (w1 : ∀ y ∈ x1, Wf .u8 y) (_ : x1.length ≤ maxLen) : shutterlaw02_MacKeeps.m KK x0 x1 = some true := by
  unfold shutterlaw02_MacKeeps.m
  rw [awake_eq, Option.bind_some, cond_true]
  by_cases h0 : (x0.length : Int) > 200
  · rw [if_pos h0, Option.bind_some]
  · rw [if_neg h0]
    by_cases h1 : (x1.length : Int) > 300
    · rw [if_pos h1, Option.bind_some]
    · have f : [x1, [], x1].flatten = x1 ++ x1 := by simp
      rw [if_neg h1, app_ok (by simp; omega), Option.bind_some, List.nil_append, app_ok (by simp; omega), Option.bind_some, List.nil_append, code_eq (by omega) w0 (by simp) (by rw [f, List.length_append]; omega) (by rw [f]; exact bytes_app w1 w1), Option.bind_some, Option.bind_some,
        beq_self_eq_true, cond_true, if_pos rfl, same_eq (by omega), Option.bind_some, beq_self_eq_true, cond_true, same_eq (by omega), Option.bind_some, beq_self_eq_true, cond_true, if_pos (by simp)]
      rfl
theorem long_loop (v : Int) (n : Int) (hn : n ≤ 100) (e : w64 (65 + w64 (Int.tmod v 20)) = n) (wv : Wf .u8 v) : ∀ (k : Nat) (x : List Int), x.length ≤ 200 → 100 - x.length < k → (∀ y ∈ x, Wf .u8 y) →
    ∃ x', shutterlaw02_MacLong.l1.m KK v k x = some x' ∧ n ≤ (x'.length : Int) ∧ x'.length ≤ 200 ∧ ∀ y ∈ x', Wf .u8 y := by
  intro k
  induction k with
  | zero => intro x _ h; omega
  | succ k ih =>
    intro x hx h wx
    rw [shutterlaw02_MacLong.l1.m, e]
    by_cases h3 : (x.length : Int) < n
    · rw [if_pos h3, app_ok (by simp; omega), Option.bind_some]
      exact ih _ (by simp; omega) (by simp; omega) (bytes_app wx fun y hy => by obtain rfl := List.mem_singleton.1 hy; exact wv)
    · rw [if_neg h3]
      exact ⟨x, rfl, by omega, hx, wx⟩
theorem MacLong_true (x0 : (List Int)) (x1 : Int) (x2 : (List Int)) (w0 : ∀ y ∈ x0, Wf .u8 y) (_ : x0.length ≤ maxLen) (w1 : Wf .u8 x1) (w2 : ∀ y ∈ x2, Wf .u8 y) (_ : x2.length ≤ maxLen) : shutterlaw02_MacLong.m KK x0 x1 x2 = some true := by
  have b := b_u8 w1
  unfold shutterlaw02_MacLong.m
  rw [awake_eq, Option.bind_some, cond_true]
  by_cases h0 : (x0.length : Int) > 100
  · rw [if_pos h0, Option.bind_some]
  · rw [if_neg h0]
    by_cases h1 : (x2.length : Int) > 300
    · rw [if_pos h1, Option.bind_some]
    · have em : Int.tmod x1 20 = x1 % 20 := Int.tmod_eq_emod_of_nonneg b.1
      have e : w64 (65 + w64 (Int.tmod x1 20)) = 65 + x1 % 20 := by rw [em, w64_id (n := x1 % 20) (by omega) (by omega), w64_id (by omega) (by omega)]
      obtain ⟨k, e1, e2, e3, wk⟩ := long_loop x1 (65 + x1 % 20) (by omega) e w1 KK x0 (by omega) (by unfold KK; omega) w0
      have f : [x2].flatten = x2 := by simp
      have s := sha_wf wk
      have hp : kpad k = kpad (sha k) := by
        have a1 : keyOf k = sha k := by unfold keyOf; rw [if_pos (by omega)]
        have a2 : keyOf (sha k) = sha k := by unfold keyOf; rw [if_neg (by omega)]
        unfold kpad; rw [a1, a2]
      rw [if_neg h1, app_ok (by simp; omega), Option.bind_some, List.nil_append, e1, Option.bind_some, ref_eq (by omega) wk, Option.bind_some, code_eq (by omega) wk (by simp) (by rw [f]; omega) (by rw [f]; exact w2), Option.bind_some, code_eq (by omega) s.2 (by simp) (by rw [f]; omega) (by rw [f]; exact w2), Option.bind_some, f,
        hmac_pad hp, beq_self_eq_true, cond_true, tag_eq (by omega) wk (by simp) (by rw [f]; omega) (by rw [f]; exact w2), Option.bind_some, tag_eq (by omega) s.2 (by simp) (by rw [f]; omega) (by rw [f]; exact w2), Option.bind_some, f, hmac_pad hp, beq_self_eq_true]
end Go.Proofs.Ytooaghempnlclaa.Sx
