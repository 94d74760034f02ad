/- Plain law of package read: what is handed in stays. -/
import Derived.Test.YtfbcjibdgicaoaaDoorRE
namespace Go.Proofs.YtfbcjibdgicaoaaDoor.Sx
open Go
set_option maxRecDepth 100000

theorem same10_loopK {a b : api_Screen} (h : a.Cells = b.Cells) (hl : a.Cells.length ≤ 200) : ∀ (f : Nat) (j : Int), 0 ≤ j → j ≤ (a.Cells.length : Int) → (a.Cells.length : Int) - j < f → shutterref10_Same.l1.m KK a b f j = some (.inr ()) := by
  intro f
  induction f with
  | zero => intro j _ _ h; omega
  | succ f ih =>
    intro j j0 j1 hf
    rw [shutterref10_Same.l1.m]
    by_cases h3 : j < (a.Cells.length : Int)
    · rw [if_pos h3, if_pos j0, if_pos (by rw [← h]; exact h3), ← h]
      simp only [beq_self_eq_true, Bool.and_self, cond_true]
      rw [w64_id (by omega) (by omega)]
      exact ih (j + 1) (by omega) (by omega) (by omega)
    · rw [if_neg h3]
theorem same10_reflK {s : api_Screen} (hl : s.Cells.length ≤ 200) : shutterref10_Same.m KK s s = some true := by
  unfold shutterref10_Same.m
  simp only [if_true, bne_self_eq_false, cond_false]
  rw [same10_loopK rfl hl KK 0 (by omega) (by omega) (by unfold KK; omega), Option.bind_some]
theorem keep2 {l : List api_Order} {i : Int} (h0 : 0 ≤ i) (ht : (at_ l i).Text.length ≤ 100000) : ∀ (f : Nat) (j : Int), 0 ≤ j → j ≤ ((at_ l i).Text.length : Int) → ((at_ l i).Text.length : Int) - j < f → shutterlaw18_ReadKeeps.l2.m KK l i f j = some () := by
  intro f
  induction f with
  | zero => intro j _ _ h; omega
  | succ f ih =>
    intro j j0 j1 hf
    rw [shutterlaw18_ReadKeeps.l2.m, if_pos h0]
    by_cases h3 : j < ((at_ l i).Text.length : Int)
    · rw [if_pos h3, if_pos j0, if_pos h3, w64_id (by omega) (by omega)]
      exact ih (j + 1) (by omega) (by omega) (by omega)
    · rw [if_neg h3]
theorem keep1 {l : List api_Order} (hl : l.length ≤ 100000) (ht : ∀ o ∈ l, o.Text.length ≤ 100000) : ∀ (f : Nat) (j : Int), 0 ≤ j → j ≤ (l.length : Int) → (l.length : Int) - j < f → shutterlaw18_ReadKeeps.l1.m KK l f j = some () := by
  intro f
  induction f with
  | zero => intro j _ _ h; omega
  | succ f ih =>
    intro j j0 j1 hf
    rw [shutterlaw18_ReadKeeps.l1.m]
    by_cases h3 : j < (l.length : Int)
    · have := ht _ (at_memG j0 h3)
      rw [if_pos h3, keep2 j0 this KK 0 (by omega) (by omega) (by unfold KK; omega), Option.bind_some, w64_id (by omega) (by omega)]
      exact ih (j + 1) (by omega) (by omega) (by omega)
    · rw [if_neg h3]
theorem keep4 {x : api_In × GoErr} {i : Int} (h0 : 0 ≤ i) (ht : (at_ x.1.Fields i).Text.length ≤ 100000) : ∀ (f : Nat) (j : Int), 0 ≤ j → j ≤ ((at_ x.1.Fields i).Text.length : Int) → ((at_ x.1.Fields i).Text.length : Int) - j < f → shutterlaw18_ReadKeeps.l4.m KK x i f j = some () := by
  intro f
  induction f with
  | zero => intro j _ _ h; omega
  | succ f ih =>
    intro j j0 j1 hf
    rw [shutterlaw18_ReadKeeps.l4.m, if_pos h0]
    by_cases h3 : j < ((at_ x.1.Fields i).Text.length : Int)
    · rw [if_pos h3, if_pos j0, if_pos h3, w64_id (by omega) (by omega)]
      exact ih (j + 1) (by omega) (by omega) (by omega)
    · rw [if_neg h3]
theorem keep3 {x : api_In × GoErr} (hl : x.1.Fields.length ≤ 200) (ht : ∀ o ∈ x.1.Fields, o.Text.length ≤ 200) : ∀ (f : Nat) (j : Int), 0 ≤ j → j ≤ (x.1.Fields.length : Int) → (x.1.Fields.length : Int) - j < f → shutterlaw18_ReadKeeps.l3.m KK x f j = some () := by
  intro f
  induction f with
  | zero => intro j _ _ h; omega
  | succ f ih =>
    intro j j0 j1 hf
    rw [shutterlaw18_ReadKeeps.l3.m]
    by_cases h3 : j < (x.1.Fields.length : Int)
    · have := ht _ (at_memG j0 h3)
      rw [if_pos h3, keep4 j0 (by omega) KK 0 (by omega) (by omega) (by unfold KK; omega), Option.bind_some, w64_id (by omega) (by omega)]
      exact ih (j + 1) (by omega) (by omega) (by omega)
    · rw [if_neg h3]
theorem ReadKeeps_true (x0 : api_Screen) (_ : ok_api_Screen x0) : shutterlaw18_ReadKeeps.m KK x0 = some true := by
  unfold shutterlaw18_ReadKeeps.m
  obtain ⟨b, hb, hf⟩ := few_eq10 x0
  simp only [awake18, hb, Option.bind_some, cond_true]
  cases b with
  | false => rfl
  | true =>
    have f := hf rfl
    have hl := f.len
    obtain ⟨g3, g4⟩ := img_small f
    have e1 : attr_Aid.m 125 = some true := by kernel_rfl
    have hi : (modOf x0 125 true).1.Fields.length ≤ 200 ∧ ∀ e ∈ (modOf x0 125 true).1.Fields, e.Text.length ≤ 200 := in_small hl 125
    have hc : shutterref10_Copy.m x0 = some x0 := by
      unfold shutterref10_Copy.m
      rw [appk (by simp; omega), Option.bind_some, List.nil_append]
    rw [cond_true, hc, Option.bind_some, image_eq f, Option.bind_some, keep1 g3 g4 KK 0 (by omega) (by omega) (by unfold KK; omega), Option.bind_some, modified_prog f e1, Option.bind_some,
      keep3 (x := modOf x0 125 true) hi.1 hi.2 KK 0 (by omega) (by omega) (by unfold KK; omega), Option.bind_some, same10_reflK hl, Option.bind_some, cond_true, Option.bind_some, imageref_eq f, Option.bind_some, same08_refl (x := ⟨0, ⟨false, false, false⟩, imgOf x0⟩) g3 g4, Option.bind_some]
end Go.Proofs.YtfbcjibdgicaoaaDoor.Sx

