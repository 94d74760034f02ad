/- Plain facts on package read: a screen's image. -/
import Derived.Test.YtfbcjibdgicaoaaGreatDoorPR
import Derived.Test.YtfbcjibdgicaoaaGreatDoorGE
namespace Go.Proofs.YtfbcjibdgicaoaaGreatDoor.Sx
open Go
set_option maxRecDepth 100000

theorem appk {α : Type} {l m : List α} (h : l.length + m.length ≤ 1099511627776) : app l m = some (l ++ m) := by unfold app; rw [if_pos (by unfold Lim; exact h)]
theorem drop_atG {α : Type} [Inhabited α] {l : List α} {i : Int} (h0 : 0 ≤ i) (h1 : i < (l.length : Int)) : l.drop i.toNat = at_ l i :: l.drop (i + 1).toNat := by
  have hi : i.toNat < l.length := by omega
  rw [show (i + 1).toNat = i.toNat + 1 by omega, List.drop_eq_getElem_cons hi]
  unfold at_
  rw [List.getD_eq_getElem?_getD, List.getElem?_eq_getElem hi, Option.getD_some]

/-! ### Screens that are right -/
structure FewP (s : api_Screen) : Prop where
  len : s.Cells.length ≤ 200
  c0 : 0 ≤ s.Cursor
  c1 : s.Cursor < (s.Cells.length : Int)
  cell : ∀ c ∈ s.Cells, shutterref10_Cell.m c = some true
theorem cell_some (c : api_Cell) : ∃ b, shutterref10_Cell.m c = some b := by
  unfold shutterref10_Cell.m shutterref05_Char.m
  simp only [letJ]
  cases c.Field <;> simp only [cond_true, cond_false] <;> repeat' split
  all_goals first
    | exact ⟨_, rfl⟩
    | skip
  all_goals
    cases ((c.Attr.Protected == false) && ((c.Attr.Numeric == false) && ((c.Attr.Show == 0) && ((c.Attr.Modified == false) && true)))) <;> simp only [cond_true, cond_false, Option.bind_some] <;> exact ⟨_, rfl⟩
theorem right_loop {s : api_Screen} (hl : s.Cells.length ≤ 200) : ∀ (k : Nat) (i : Int), 0 ≤ i → i ≤ (s.Cells.length : Int) → (s.Cells.length : Int) - i < (k : Int) →
    shutterref10_Right.l1.m KK s k i = some (.inl false) ∨ (shutterref10_Right.l1.m KK s k i = some (.inr ()) ∧ ∀ c ∈ s.Cells.drop i.toNat, shutterref10_Cell.m c = some true) := by
  intro k
  induction k with
  | zero => intro i _ _ h; omega
  | succ k ih =>
    intro i i0 i1 hk
    rw [shutterref10_Right.l1.m]
    by_cases h3 : i < (s.Cells.length : Int)
    · rw [if_pos h3, if_pos i0, drop_atG i0 h3]
      obtain ⟨b, hb⟩ := cell_some (at_ s.Cells i)
      have hb' : shutterref10_Cell.m ⟨(at_ s.Cells i).Field, (at_ s.Cells i).Attr, (at_ s.Cells i).Char⟩ = some b := hb
      rw [hb', Option.bind_some]
      cases b with
      | false => exact .inl rfl
      | true =>
        rw [cond_true, w64_id (by omega) (by omega)]
        rcases ih (i + 1) (by omega) (by omega) (by omega) with h | ⟨h, h2⟩
        · exact .inl h
        · refine .inr ⟨h, fun c hc => ?_⟩
          rcases List.mem_cons.1 hc with rfl | hc
          · exact hb
          · exact h2 c hc
    · rw [if_neg h3, List.drop_eq_nil_of_le (by omega)]
      exact .inr ⟨rfl, fun c hc => by cases hc⟩
theorem few_eq10 (s : api_Screen) : ∃ b, shutterref10_Few.m KK s = some b ∧ (b = true → FewP s) := by
  unfold shutterref10_Few.m
  by_cases hl : (s.Cells.length : Int) ≤ 200
  · rw [if_pos hl]
    have right : ∃ b, shutterref10_Right.m KK s = some b ∧ (b = true → FewP s) := by
      unfold shutterref10_Right.m
      have hs : ∃ b, shutterref10_Sized.m s.Rows s.Cols = some b := by
        unfold shutterref10_Sized.m
        repeat' split
        all_goals exact ⟨_, rfl⟩
      obtain ⟨b, hb⟩ := hs
      rw [hb, Option.bind_some]
      cases b with
      | false => exact ⟨false, rfl, fun h => by cases h⟩
      | true =>
        rw [cond_true]
        by_cases h1 : (s.Cells.length : Int) = w64 (s.Rows * s.Cols)
        · rw [if_pos h1]
          by_cases h2 : s.Cursor < 0
          · rw [if_pos h2]; exact ⟨false, rfl, fun h => by cases h⟩
          rw [if_neg h2]
          by_cases h3 : s.Cursor ≥ (s.Cells.length : Int)
          · rw [if_pos h3]; exact ⟨false, rfl, fun h => by cases h⟩
          rw [if_neg h3]
          rcases right_loop (s := s) (by omega) KK 0 (by omega) (by omega) (by unfold KK; omega) with h | ⟨h, h4⟩
          · rw [h, Option.bind_some]; exact ⟨false, rfl, fun h => by cases h⟩
          · rw [h, Option.bind_some]; exact ⟨true, rfl, fun _ => ⟨by omega, by omega, by omega, h4⟩⟩
        · rw [if_neg h1]; exact ⟨false, rfl, fun h => by cases h⟩
    obtain ⟨b, hb, hf⟩ := right
    rw [hb, Option.bind_some]
    exact ⟨b, rfl, hf⟩
  · rw [if_neg hl]; exact ⟨false, rfl, fun h => by cases h⟩

/-! ### Images -/
def tO (t : List Int) : api_Order := ⟨1, t, zA, 0, 0⟩
def imgF : List api_Cell → List api_Order → List api_Order
  | [], out => out
  | c :: cs, out => bif c.Field then imgF cs (out ++ [⟨2, [], c.Attr, 0, 0⟩]) else match out.getLast? with
    | none => out
    | some o => if o.Kind = 1 then imgF cs (out.dropLast ++ [tO (o.Text ++ [c.Char])]) else imgF cs (out ++ [tO [c.Char]])
theorem img_prog {s : api_Screen} (hl : s.Cells.length ≤ 200) : ∀ (k : Nat) (i : Int) (out : List api_Order), 0 ≤ i → i ≤ (s.Cells.length : Int) → (s.Cells.length : Int) - i < (k : Int) → (out.length : Int) ≤ 10 + i → out ≠ [] →
    (∀ o ∈ out, (o.Text.length : Int) ≤ i) → read_Image.l1.m KK s k i out = some (imgF (s.Cells.drop i.toNat) out) := by
  intro k
  induction k with
  | zero => intro i out _ _ h; omega
  | succ k ih =>
    intro i out i0 i1 hk ho hne ht
    rw [read_Image.l1.m]
    by_cases h3 : i < (s.Cells.length : Int)
    · rw [if_pos h3, if_pos i0, drop_atG i0 h3, imgF, w64_id (by omega) (by omega)]
      have text : ∀ o ∈ out, (o.Text.length : Int) ≤ i + 1 := fun o h => by have := ht o h; omega
      cases hF : (at_ s.Cells i).Field with
      | true =>
        rw [cond_true, cond_true, appk (by simp; omega), Option.bind_some]
        refine ih (i + 1) _ (by omega) (by omega) (by omega) (by simp; omega) (by simp) fun o hm => ?_
        rcases List.mem_append.1 hm with h | h
        · exact text o h
        · rw [List.mem_singleton] at h; subst h; simp; omega
      | false =>
        rw [cond_false, cond_false]
        cases hg : out.getLast? with
        | none => exact absurd (List.getLast?_eq_none_iff.1 hg) hne
        | some o =>
          have hm : o ∈ out := List.mem_of_getLast? hg
          simp only
          by_cases h1 : o.Kind = 1
          · have := ht o hm
            rw [if_pos h1, if_pos h1, appk (by simp; omega), Option.bind_some]
            refine ih (i + 1) _ (by omega) (by omega) (by omega) (by simp; omega) (by simp) fun o' hm' => ?_
            rcases List.mem_append.1 hm' with h | h
            · exact text o' ((List.dropLast_subset _) h)
            · rw [List.mem_singleton] at h; subst h; simp [tO]; omega
          · rw [if_neg h1, if_neg h1, appk (by simp; omega), Option.bind_some]
            refine ih (i + 1) _ (by omega) (by omega) (by omega) (by simp; omega) (by simp) fun o' hm' => ?_
            rcases List.mem_append.1 hm' with h | h
            · exact text o' h
            · rw [List.mem_singleton] at h; subst h; simp [tO]; omega
    · rw [if_neg h3, List.drop_eq_nil_of_le (by omega)]; rfl
def imgNf (c : api_Cell) : Bool := !c.Field
theorem imgF_run {out : List api_Order} : ∀ (run rest : List api_Cell) (t : List Int), (∀ c ∈ run, c.Field = false) → imgF (run ++ rest) (out ++ [tO t]) = imgF rest (out ++ [tO (t ++ run.map (·.Char))])
  | [], rest, t, _ => by simp
  | c :: run, rest, t, h => by
    have hc := h c (List.mem_cons_self ..)
    rw [List.cons_append, imgF, hc, cond_false, List.getLast?_concat]
    simp only
    rw [if_pos (show (tO t).Kind = 1 from rfl), List.dropLast_concat]
    have := imgF_run (out := out) run rest (t ++ [c.Char]) (fun c hc => h c (List.mem_cons_of_mem _ hc))
    rw [show (tO t).Text = t from rfl, this]; simp
theorem run_ref {s : api_Screen} (hl : s.Cells.length ≤ 200) : ∀ (k : Nat) (i : Int) (t : List Int), 0 ≤ i → i ≤ (s.Cells.length : Int) → (s.Cells.length : Int) - i < (k : Int) → (t.length : Int) ≤ i →
    ∃ (run : List api_Cell) (j : Int), shutterref18_Image.l2.m KK s k i t = some (j, t ++ run.map (·.Char)) ∧ (∀ c ∈ run, c.Field = false) ∧ s.Cells.drop i.toNat = run ++ s.Cells.drop j.toNat ∧ i ≤ j ∧ j ≤ (s.Cells.length : Int) ∧ (run.length : Int) = j - i ∧
      (j < (s.Cells.length : Int) → (at_ s.Cells j).Field = true) := by
  intro k
  induction k with
  | zero => intro i t _ _ h; omega
  | succ k ih =>
    intro i t i0 i1 hk ht
    rw [shutterref18_Image.l2.m]
    by_cases h3 : i < (s.Cells.length : Int)
    · rw [if_pos h3, if_pos i0]
      cases hF : (at_ s.Cells i).Field with
      | true => rw [cond_true]; exact ⟨[], i, by simp, by simp, by simp, by omega, by omega, by simp, fun _ => hF⟩
      | false =>
        rw [cond_false, appk (by simp; omega), Option.bind_some, w64_id (by omega) (by omega)]
        obtain ⟨run, j, e1, e2, e3, e4, e5, e6, e7⟩ := ih (i + 1) (t ++ [(at_ s.Cells i).Char]) (by omega) (by omega) (by omega) (by simp; omega)
        refine ⟨at_ s.Cells i :: run, j, by rw [e1]; simp, fun c hc => ?_, by rw [drop_atG i0 h3, e3]; rfl, by omega, e5, by simp; omega, e7⟩
        rcases List.mem_cons.1 hc with rfl | hc
        · exact hF
        · exact e2 c hc
    · rw [if_neg h3]
      exact ⟨[], i, by simp, by simp, by simp, by omega, by omega, by simp, fun h => absurd h h3⟩
theorem img_ref {s : api_Screen} (hl : s.Cells.length ≤ 200) : ∀ (k : Nat) (i : Int) (out : List api_Order), 0 ≤ i → i ≤ (s.Cells.length : Int) → (s.Cells.length : Int) - i < (k : Int) → (out.length : Int) ≤ 10 + i →
    ((∃ o, out.getLast? = some o ∧ o.Kind ≠ 1) ∨ (i < (s.Cells.length : Int) → (at_ s.Cells i).Field = true)) → shutterref18_Image.l1.m KK s k out i = some (imgF (s.Cells.drop i.toNat) out) := by
  intro k
  induction k with
  | zero => intro i out _ _ h; omega
  | succ k ih =>
    intro i out i0 i1 hk ho hc
    rw [shutterref18_Image.l1.m]
    simp only [letJ]
    by_cases h3 : i < (s.Cells.length : Int)
    · rw [if_pos h3, if_pos i0]
      cases hF : (at_ s.Cells i).Field with
      | true =>
        rw [cond_true, cond_true, if_pos i0, appk (by simp; omega), Option.bind_some, w64_id (by omega) (by omega), drop_atG i0 h3, imgF, hF, cond_true]
        exact ih (i + 1) _ (by omega) (by omega) (by omega) (by simp; omega) (.inl ⟨⟨2, [], (at_ s.Cells i).Attr, 0, 0⟩, by simp, show (2 : Int) ≠ 1 by decide⟩)
      | false =>
        rw [cond_false, cond_false]
        obtain ⟨run, j, e1, e2, e3, e4, e5, e6, e7⟩ := run_ref (s := s) hl KK i [] i0 i1 (by unfold KK; omega) (by simp; omega)
        rw [e1, Option.bind_some]
        simp only
        rw [appk (by simp; omega), Option.bind_some, List.nil_append]
        rcases hc with ⟨o, hg, hk1⟩ | hc
        · have hrun : run ≠ [] := fun e => by
            rw [e] at e6; simp at e6
            have : j = i := by omega
            rw [this] at e7; rw [e7 h3] at hF; cases hF
          obtain ⟨c, run', rfl⟩ := List.exists_cons_of_ne_nil hrun
          rw [ih j _ (by omega) e5 (by simp at e6; omega) (by simp; simp at e6; omega) (.inr e7), e3, List.cons_append, imgF, e2 c (List.mem_cons_self ..), cond_false, hg]
          simp only
          rw [if_neg hk1, imgF_run run' _ [c.Char] (fun c hc => e2 c (List.mem_cons_of_mem _ hc))]
          rfl
        · rw [hc h3] at hF; cases hF
    · rw [if_neg h3, List.drop_eq_nil_of_le (by omega)]; rfl

theorem imgF_len : ∀ (cs : List api_Cell) (out : List api_Order), (imgF cs out).length ≤ out.length + cs.length
  | [], out => by rw [imgF]; simp
  | c :: cs, out => by
    rw [imgF]
    cases hF : c.Field with
    | true => rw [cond_true]; have := imgF_len cs (out ++ [⟨2, [], c.Attr, 0, 0⟩]); simp at this ⊢; omega
    | false =>
      rw [cond_false]
      cases hg : out.getLast? with
      | none => simp
      | some o =>
        have hne : out ≠ [] := fun e => by rw [e] at hg; cases hg
        have hp := List.length_pos_iff.2 hne
        simp only
        by_cases h1 : o.Kind = 1
        · rw [if_pos h1]; have := imgF_len cs (out.dropLast ++ [tO (o.Text ++ [c.Char])]); simp at this ⊢; omega
        · rw [if_neg h1]; have := imgF_len cs (out ++ [tO [c.Char]]); simp at this ⊢; omega
theorem imgF_text {m : Nat} : ∀ (cs : List api_Cell) (out : List api_Order) (n : Nat), (∀ o ∈ out, o.Text.length ≤ n) → n + cs.length ≤ m → ∀ o ∈ imgF cs out, o.Text.length ≤ m
  | [], out, n, h, hm, o, ho => by rw [imgF] at ho; have := h o ho; simp at hm; omega
  | c :: cs, out, n, h, hm, o, ho => by
    rw [imgF] at ho
    simp only [List.length_cons] at hm
    have up : ∀ (x : api_Order), x.Text.length ≤ n + 1 → ∀ (l : List api_Order), (∀ o ∈ l, o ∈ out) → ∀ o ∈ l ++ [x], o.Text.length ≤ n + 1 := fun x hx l hl o ho => by
      rcases List.mem_append.1 ho with q | q
      · have := h o (hl o q); omega
      · rw [List.mem_singleton] at q; rw [q]; exact hx
    cases hF : c.Field with
    | true => rw [hF, cond_true] at ho; exact imgF_text cs _ (n + 1) (up _ (by simp) out (fun _ q => q)) (by omega) o ho
    | false =>
      rw [hF, cond_false] at ho
      cases hg : out.getLast? with
      | none => rw [hg] at ho; have := h o ho; omega
      | some o' =>
        rw [hg] at ho
        have h' := h o' (List.mem_of_getLast? hg)
        simp only at ho
        by_cases h1 : o'.Kind = 1
        · rw [if_pos h1] at ho; exact imgF_text cs _ (n + 1) (up _ (by simp [tO]; omega) _ (fun _ q => (List.dropLast_subset _) q)) (by omega) o ho
        · rw [if_neg h1] at ho; exact imgF_text cs _ (n + 1) (up _ (by simp [tO]) out (fun _ q => q)) (by omega) o ho
def imgOf (s : api_Screen) : List api_Order :=
  let l := imgF s.Cells [⟨3, [], zA, 0, 0⟩]
  if s.Cursor = 0 then l ++ [⟨4, [], zA, 0, 0⟩] else l ++ [⟨3, [], zA, s.Cursor, 0⟩] ++ [⟨4, [], zA, 0, 0⟩]
theorem image_eq {s : api_Screen} (f : FewP s) : read_Image.m KK s = some (imgOf s) := by
  unfold read_Image.m imgOf
  have hl := f.len
  have hp := imgF_len s.Cells [⟨3, [], zA, 0, 0⟩]
  simp only [List.length_singleton] at hp
  rw [img_prog hl KK 0 _ (by omega) (by omega) (by unfold KK; omega) (by simp) (by simp) (by simp), Option.bind_some, show (0 : Int).toNat = 0 from rfl, List.drop_zero]
  by_cases h : s.Cursor = 0
  · rw [if_pos h, if_pos h, appk (by simp only [List.length_append, List.length_cons, List.length_nil]; omega)]
  · rw [if_neg h, if_neg h, appk (by simp only [List.length_append, List.length_cons, List.length_nil]; omega), Option.bind_some, appk (by simp only [List.length_append, List.length_cons, List.length_nil]; omega)]
theorem imageref_eq {s : api_Screen} (f : FewP s) : shutterref18_Image.m KK s = some (imgOf s) := by
  unfold shutterref18_Image.m imgOf
  have hl := f.len
  have h0 := f.c0
  have hp := imgF_len s.Cells [⟨3, [], zA, 0, 0⟩]
  simp only [List.length_singleton] at hp
  have hp' : (imgF s.Cells [⟨3, [], ⟨false, false, 0, false⟩, 0, 0⟩]).length ≤ 1 + s.Cells.length := hp
  rw [img_ref hl KK 0 _ (by omega) (by omega) (by unfold KK; omega) (by simp) (.inl ⟨⟨3, [], zA, 0, 0⟩, rfl, show (3 : Int) ≠ 1 by decide⟩), Option.bind_some, show (0 : Int).toNat = 0 from rfl, List.drop_zero]
  by_cases h : s.Cursor = 0
  · rw [if_pos h, if_neg (by omega), appk (by simp only [List.length_append, List.length_cons, List.length_nil]; omega), Option.bind_some]
  · rw [if_neg h, if_pos (by omega), appk (by simp only [List.length_append, List.length_cons, List.length_nil]; omega), Option.bind_some, appk (by simp only [List.length_append, List.length_cons, List.length_nil]; omega), Option.bind_some]
theorem img_small {s : api_Screen} (f : FewP s) : (imgOf s).length ≤ 100000 ∧ ∀ o ∈ imgOf s, o.Text.length ≤ 100000 := by
  have hl := f.len
  have hp := imgF_len s.Cells [⟨3, [], zA, 0, 0⟩]
  have ht := imgF_text (m := 100000) s.Cells [⟨3, [], zA, 0, 0⟩] 0 (by simp) (by omega)
  unfold imgOf
  simp only [List.length_singleton] at hp
  by_cases h : s.Cursor = 0
  · rw [if_pos h]
    refine ⟨by simp; omega, fun o ho => ?_⟩
    rcases List.mem_append.1 ho with q | q
    · exact ht o q
    · rw [List.mem_singleton] at q; subst q; simp
  · rw [if_neg h]
    refine ⟨by simp; omega, fun o ho => ?_⟩
    rcases List.mem_append.1 ho with q | q
    · rcases List.mem_append.1 q with q | q
      · exact ht o q
      · rw [List.mem_singleton] at q; subst q; simp
    · rw [List.mem_singleton] at q; subst q; simp
theorem awake18 : shutterlaw18_awake.m KK = some true := by kernel_rfl
end Go.Proofs.YtfbcjibdgicaoaaGreatDoor.Sx

