/- Plain facts on package read: what is told may be written. -/
import Derived.Test.YtfbcjibdgicaoaaGreatDoorRE
namespace Go.Proofs.YtfbcjibdgicaoaaGreatDoor.Sx
open Go
set_option maxRecDepth 100000

def charK (y : Int) : Prop := shutterref05_Char.m y = some true
theorem charK_facts {y : Int} (h : charK y) : chr y = true ∧ 0 ≤ y ∧ y ≤ 254 := by
  unfold charK shutterref05_Char.m at h
  by_cases h1 : y = 0
  · subst h1; exact ⟨rfl, by omega, by omega⟩
  by_cases h2 : y = 28
  · subst h2; exact ⟨rfl, by omega, by omega⟩
  by_cases h3 : y = 30
  · subst h3; exact ⟨rfl, by omega, by omega⟩
  rw [if_neg h1, if_neg h2, if_neg h3] at h
  by_cases h4 : y ≥ 64
  · rw [if_pos h4] at h
    have h5 : y ≤ 254 := by simpa using h
    refine ⟨?_, by omega, h5⟩
    unfold chr
    have e : (y != 255) = true := by simp; omega
    rw [e]; simp [h4]
  · rw [if_neg h4] at h; cases h
structure CellK (c : api_Cell) : Prop where
  f : c.Field = true → okA c.Attr = true
  n : c.Field = false → charK c.Char
theorem cellK {c : api_Cell} (h : shutterref10_Cell.m c = some true) : CellK c := by
  unfold shutterref10_Cell.m at h
  simp only [letJ] at h
  constructor
  · intro hF
    rw [hF, cond_true, cond_true] at h
    by_cases h1 : c.Char = 0
    · rw [if_pos h1] at h
      by_cases h2 : c.Attr.Show ≥ 0
      · rw [if_pos h2] at h
        exact okA_iff.2 ⟨h2, by simpa using h⟩
      · rw [if_neg h2] at h; cases h
    · rw [if_neg h1] at h; cases h
  · intro hF
    rw [hF, cond_false, cond_false] at h
    revert h
    cases (c.Attr.Protected == false && (c.Attr.Numeric == false && (c.Attr.Show == 0 && (c.Attr.Modified == false && true)))) with
    | false => intro h; rw [cond_false] at h; cases h
    | true =>
      intro h
      rw [cond_true] at h
      unfold charK
      cases hq : shutterref05_Char.m c.Char with
      | none => rw [hq] at h; cases h
      | some b => rw [hq] at h; exact h

/-! ### Images -/
structure OkO (n : Int) (o : api_Order) : Prop where
  r : RightO o n
  u : ∀ y ∈ o.Text, 0 ≤ y ∧ y ≤ 254
  c : o.Char = 0
def OkL (n : Int) : Bool → List api_Order → Prop
  | _, [] => True
  | pv, o :: l => OkO n o ∧ ¬ (pv = true ∧ o.Kind = 1) ∧ OkL n (o.Kind == 1) l
def lastT : Bool → List api_Order → Bool
  | pv, [] => pv
  | _, o :: l => lastT (o.Kind == 1) l
theorem lastT_last {o : api_Order} : ∀ (l : List api_Order) (pv : Bool), l.getLast? = some o → lastT pv l = (o.Kind == 1)
  | [], _, h => by cases h
  | [x], pv, h => by simp at h; subst h; rfl
  | x :: y :: l, pv, h => by rw [lastT]; exact lastT_last (y :: l) _ (by rw [List.getLast?_cons_cons] at h; exact h)
theorem okL_app {n : Int} {o : api_Order} : ∀ (l : List api_Order) (pv : Bool), OkL n pv (l ++ [o]) ↔ OkL n pv l ∧ OkO n o ∧ ¬ (lastT pv l = true ∧ o.Kind = 1)
  | [], pv => by simp [OkL, lastT]
  | x :: l, pv => by
    rw [List.cons_append, OkL, OkL, okL_app l, lastT]
    constructor
    · rintro ⟨a, b, c, d, e⟩; exact ⟨⟨a, b, c⟩, d, e⟩
    · rintro ⟨⟨a, b, c⟩, d, e⟩; exact ⟨a, b, c, d, e⟩
theorem okL_ordW {n : Int} : ∀ (l : List api_Order) (pv : Bool) (i : Int), OkL n pv l → ordW n pv i l = none
  | [], _, _, _ => rfl
  | o :: l, pv, i, h => by
    rw [ordW, right_iff.2 h.1.r, if_neg (by simp)]
    have e : (pv && (o.Kind == 1)) = false := by
      have := h.2.1
      cases pv <;> simp_all
    rw [e]
    exact okL_ordW l _ _ h.2.2
theorem okL_mem {n : Int} : ∀ (l : List api_Order) (pv : Bool), OkL n pv l → ∀ o ∈ l, OkO n o
  | [], _, _, o, ho => by cases ho
  | x :: l, pv, h, o, ho => by
    rcases List.mem_cons.1 ho with rfl | ho
    · exact h.1
    · exact okL_mem l _ h.2.2 o ho
theorem tot_app (l : List api_Order) (o : api_Order) : tot (l ++ [o]) = tot l + (o.Text.length + 4) := by unfold tot; simp
theorem okO_text {n : Int} {t : List Int} (ht : t ≠ []) (h : ∀ y ∈ t, charK y) : OkO n (tO t) := by
  refine ⟨⟨by show (1 : Int) ≤ 1; decide, by show (1 : Int) ≤ 7; decide, ⟨fun _ => ht, fun _ => rfl⟩, ?_, fun e => absurd e (by show ¬ (1 : Int) = 2; decide), fun _ => rfl, fun e => absurd e (by show ¬ (1 : Int) = 6; decide), fun _ => rfl, fun e => absurd e (by show ¬ ((1 : Int) = 3 ∨ (1 : Int) = 6 ∨ (1 : Int) = 7); decide), fun _ => rfl⟩, fun y hy => (charK_facts (h y hy)).2, rfl⟩
  rw [List.all_eq_true]
  exact fun y hy => (charK_facts (h y hy)).1
theorem okO_start {n : Int} {a : api_Attr} (h : okA a = true) : OkO n ⟨2, [], a, 0, 0⟩ :=
  ⟨⟨by show (1 : Int) ≤ 2; decide, by show (2 : Int) ≤ 7; decide, ⟨fun e => absurd e (by show ¬ (2 : Int) = 1; decide), fun e => absurd rfl e⟩, rfl, fun _ => h, fun e => absurd rfl e, fun e => absurd e (by show ¬ (2 : Int) = 6; decide), fun _ => rfl, fun e => absurd e (by show ¬ ((2 : Int) = 3 ∨ (2 : Int) = 6 ∨ (2 : Int) = 7); decide), fun _ => rfl⟩, fun y hy => (by cases hy), rfl⟩
theorem okO_set {n i : Int} (h0 : 0 ≤ i) (h1 : i < n) : OkO n ⟨3, [], zA, i, 0⟩ :=
  ⟨⟨by show (1 : Int) ≤ 3; decide, by show (3 : Int) ≤ 7; decide, ⟨fun e => absurd e (by show ¬ (3 : Int) = 1; decide), fun e => absurd rfl e⟩, rfl, fun e => absurd e (by show ¬ (3 : Int) = 2; decide), fun _ => rfl, fun e => absurd e (by show ¬ (3 : Int) = 6; decide), fun _ => rfl, fun _ => ⟨h0, h1⟩, fun e => absurd (.inl rfl) e⟩, fun y hy => (by cases hy), rfl⟩
theorem okO_cur {n : Int} : OkO n ⟨4, [], zA, 0, 0⟩ :=
  ⟨⟨by show (1 : Int) ≤ 4; decide, by show (4 : Int) ≤ 7; decide, ⟨fun e => absurd e (by show ¬ (4 : Int) = 1; decide), fun e => absurd rfl e⟩, rfl, fun e => absurd e (by show ¬ (4 : Int) = 2; decide), fun _ => rfl, fun e => absurd e (by show ¬ (4 : Int) = 6; decide), fun _ => rfl, fun e => absurd e (by show ¬ ((4 : Int) = 3 ∨ (4 : Int) = 6 ∨ (4 : Int) = 7); decide), fun _ => rfl⟩, fun y hy => (by cases hy), rfl⟩
/-- Orders of text hold letters that may be. -/
def TK (l : List api_Order) : Prop := ∀ o ∈ l, ∀ y ∈ o.Text, charK y
theorem imgF_ok {n : Int} : ∀ (cs : List api_Cell) (out : List api_Order), (∀ c ∈ cs, CellK c) → out ≠ [] → OkL n false out → TK out → OkL n false (imgF cs out) ∧ tot (imgF cs out) ≤ tot out + 5 * cs.length ∧ TK (imgF cs out)
  | [], out, _, _, h, hk => ⟨h, by rw [imgF]; simp, hk⟩
  | c :: cs, out, hc, hne, h, hk => by
    have h1 := hc c (List.mem_cons_self ..)
    have h2 := fun c' (q : c' ∈ cs) => hc c' (List.mem_cons_of_mem _ q)
    have tk : ∀ (l : List api_Order) (o : api_Order), (∀ x ∈ l, x ∈ out) → (∀ y ∈ o.Text, charK y) → TK (l ++ [o]) := fun l o hl ho x hx => by
      rcases List.mem_append.1 hx with q | q
      · exact hk x (hl x q)
      · rw [List.mem_singleton] at q; subst q; exact ho
    rw [imgF]
    cases hF : c.Field with
    | true =>
      rw [cond_true]
      have := imgF_ok (n := n) cs (out ++ [⟨2, [], c.Attr, 0, 0⟩]) h2 (by simp) ((okL_app out false).2 ⟨h, okO_start (h1.f hF), fun e => absurd e.2 (by show ¬ (2 : Int) = 1; decide)⟩) (tk out _ (fun _ q => q) (fun y hy => by cases hy))
      refine ⟨this.1, ?_, this.2.2⟩
      have e := this.2.1
      rw [tot_app] at e
      simp only [List.length_cons, List.length_nil] at e ⊢
      omega
    | false =>
      rw [cond_false]
      cases hg : out.getLast? with
      | none => exact absurd (List.getLast?_eq_none_iff.1 hg) hne
      | some o =>
        have hm : o ∈ out := List.mem_of_getLast? hg
        have hd : out = out.dropLast ++ [o] := by
          rw [List.getLast?_eq_some_getLast hne] at hg
          have := List.dropLast_concat_getLast hne
          rw [Option.some.inj hg] at this
          exact this.symm
        have hck := h1.n hF
        simp only
        by_cases hk1 : o.Kind = 1
        · rw [if_pos hk1]
          rw [hd] at h
          obtain ⟨g1, g2, g3⟩ := (okL_app out.dropLast false).1 h
          have this := imgF_ok (n := n) cs (out.dropLast ++ [tO (o.Text ++ [c.Char])]) h2 (by simp) ((okL_app out.dropLast false).2 ⟨g1, okO_text (by simp) (fun y hy => ?_), fun e => g3 ⟨e.1, hk1⟩⟩)
            (tk _ _ (fun _ q => (List.dropLast_subset _) q) (fun y hy => ?_))
          · refine ⟨this.1, ?_, this.2.2⟩
            have e := this.2.1
            have e2 : tot out = tot out.dropLast + (o.Text.length + 4) := by
              conv => lhs; rw [hd]
              exact tot_app _ _
            rw [tot_app] at e
            simp only [tO, List.length_append, List.length_cons, List.length_nil] at e ⊢
            omega
          all_goals
            rcases List.mem_append.1 hy with q | q
            · exact hk o hm y q
            · rw [List.mem_singleton] at q; subst q; exact hck
        · rw [if_neg hk1]
          have hlt : lastT false out = false := by rw [lastT_last out false hg]; simpa using hk1
          have hy1 : ∀ y ∈ (tO [c.Char]).Text, charK y := fun y hy => by
            have : y = c.Char := by simpa [tO] using hy
            subst this; exact hck
          have this := imgF_ok (n := n) cs (out ++ [tO [c.Char]]) h2 (by simp) ((okL_app out false).2 ⟨h, okO_text (by simp) hy1, fun e => by rw [hlt] at e; cases e.1⟩) (tk out _ (fun _ q => q) hy1)
          refine ⟨this.1, ?_, this.2.2⟩
          have e := this.2.1
          rw [tot_app] at e
          simp only [tO, List.length_cons, List.length_nil] at e ⊢
          omega
theorem img_ok {s : api_Screen} (f : FewP s) : OkL s.Cells.length false (imgOf s) ∧ tot (imgOf s) ≤ 1100 := by
  have hl := f.len
  have c0 := f.c0
  have c1 := f.c1
  obtain ⟨g1, g2, g3⟩ := imgF_ok (n := s.Cells.length) s.Cells [⟨3, [], zA, 0, 0⟩] (fun c hc => cellK (f.cell c hc)) (by simp) ⟨okO_set (by omega) (by omega), by simp, trivial⟩ (fun o ho y hy => by
    rw [List.mem_singleton] at ho; subst ho; cases hy)
  have g4 : tot [⟨3, [], zA, 0, 0⟩] = 4 := rfl
  unfold imgOf
  simp only
  by_cases h : s.Cursor = 0
  · rw [if_pos h]
    refine ⟨(okL_app _ _).2 ⟨g1, okO_cur, fun e => absurd e.2 (by show ¬ (4 : Int) = 1; decide)⟩, ?_⟩
    rw [tot_app]
    simp only [List.length_nil]
    omega
  · rw [if_neg h]
    refine ⟨(okL_app _ _).2 ⟨(okL_app _ _).2 ⟨g1, okO_set c0 c1, fun e => absurd e.2 (by show ¬ (3 : Int) = 1; decide)⟩, okO_cur, fun e => absurd e.2 (by show ¬ (4 : Int) = 1; decide)⟩, ?_⟩
    rw [tot_app, tot_app]
    simp only [List.length_nil]
    omega

/-! ### Inputs -/
theorem isBare_eq (x : Int) : isBare x = bareC x := Option.some.inj ((bare_prog x).symm.trans (bare_eq x))
theorem char_at {s : api_Screen} (f : FewP s) {i : Int} (h0 : 0 ≤ i) (h1 : i < (s.Cells.length : Int)) (hC : isC s i = true) : charK (at_ s.Cells i).Char :=
  (cellK (f.cell _ (at_memG h0 h1))).n (by unfold isC at hC; cases h : (at_ s.Cells i).Field with | true => rw [h] at hC; cases hC | false => rfl)
theorem ltrS_ok {s : api_Screen} (f : FewP s) {l : List Int} (hin : ∀ x ∈ l, 0 ≤ x ∧ x < (s.Cells.length : Int) ∧ isC s x = true) : ∀ y ∈ ltrS s l, ltr y = true ∧ 0 ≤ y ∧ y ≤ 254 := fun y hy => by
  unfold ltrS at hy
  obtain ⟨h1, h2⟩ := List.mem_filter.1 hy
  obtain ⟨i, hi, rfl⟩ := List.mem_map.1 h1
  have h3 := hin i hi
  have h4 := charK_facts (char_at f h3.1 h3.2.1 h3.2.2)
  exact ⟨by unfold ltr; rw [h4.1, Bool.and_true]; exact h2, h4.2⟩
theorem ent_right {s : api_Screen} (f : FewP s) {b : Int} (h0 : 0 ≤ b) (h1 : b < (s.Cells.length : Int)) : RightF (ent s b) s.Cells.length :=
  ⟨(nxt_in h0 h1).1, (nxt_in h0 h1).2, by rw [List.all_eq_true]; exact fun y hy => (ltrS_ok f (cells_in h0 h1) y hy).1⟩
theorem gap_loop {s : api_Screen} {b' : Int} (h1 : b' < (s.Cells.length : Int)) (hF : isF s b' = true) : ∀ (k : Nat) (y : Int), y ≤ b' → b' - y < k → (((ring (nxt s.Cells.length) k y).takeWhile (isC s)).length : Int) ≤ b' - y
  | 0, y, h, hk => by omega
  | k + 1, y, h, hk => by
    rw [ring, List.takeWhile_cons]
    by_cases e : y = b'
    · have : isC s y = false := by rw [e]; unfold isC; unfold isF at hF; rw [hF]; rfl
      rw [this]; simp; omega
    · cases hC : isC s y with
      | false => simp; omega
      | true =>
        have hn : nxt (s.Cells.length : Int) y = y + 1 := by unfold nxt; rw [if_neg (by omega)]
        have := gap_loop h1 hF k (y + 1) (by omega) (by omega)
        rw [if_pos rfl, hn, List.length_cons]
        omega
theorem gap {s : api_Screen} {b b' : Int} (h0 : 0 ≤ b) (hb : b < b') (h1 : b' < (s.Cells.length : Int)) (hF : isF s b' = true) : ((cellsOf s b).length : Int) ≤ b' - b - 1 := by
  have hn : nxt (s.Cells.length : Int) b = b + 1 := by unfold nxt; rw [if_neg (by omega)]
  unfold cellsOf
  rw [hn]
  have := gap_loop (s := s) h1 hF s.Cells.length (b + 1) (by omega) (by omega)
  omega
theorem ent_len (s : api_Screen) (b : Int) : (putF (ent s b) s.Cells.length).length ≤ 3 + (cellsOf s b).length := by
  rw [putF_len]
  have := ltrS_len s (cellsOf s b)
  have e : (ent s b).Text.length ≤ (cellsOf s b).length := this
  by_cases h : (ent s b).Addr = -1
  · rw [if_pos h]; omega
  · rw [if_neg h]; omega
theorem flat_small {s : api_Screen} : ∀ (m : Nat) (i : Int), 0 ≤ i → i + m = (s.Cells.length : Int) →
    (ups m i).filter (isF s) = [] ∨ ∃ b, i ≤ b ∧ b < (s.Cells.length : Int) ∧ isF s b = true ∧ ((flatF ((((ups m i).filter (isF s)).filter (isM s)).map (ent s)) s.Cells.length).length : Int) ≤ 3 * m + (s.Cells.length - b) + s.Cells.length
  | 0, i, _, _ => .inl rfl
  | m + 1, i, i0, hm => by
    have ih := flat_small (s := s) m (i + 1) (by omega) (by omega)
    rw [ups, List.filter_cons]
    cases hF : isF s i with
    | false =>
      simp only [Bool.false_eq_true, if_false]
      rcases ih with h | ⟨b, h1, h2, h3, h4⟩
      · exact .inl h
      · exact .inr ⟨b, by omega, h2, h3, by omega⟩
    | true =>
      simp only [if_true]
      refine .inr ⟨i, by omega, by omega, hF, ?_⟩
      rw [List.filter_cons]
      have hcl := cells_len s i
      have hel := ent_len s i
      cases hM : isM s i with
      | false =>
        simp only [Bool.false_eq_true, if_false]
        rcases ih with h | ⟨b, h1, h2, h3, h4⟩
        · rw [h]; simp [flatF]; omega
        · omega
      | true =>
        simp only [if_true]
        rw [List.map_cons, flatF_cons, List.length_append]
        rcases ih with h | ⟨b, h1, h2, h3, h4⟩
        · rw [h]; simp [flatF]; omega
        · have := gap (s := s) i0 (by omega) h2 h3
          omega
theorem ents_small {s : api_Screen} (hl : s.Cells.length ≤ 200) : (flatF (ents s) s.Cells.length).length ≤ 1200 := by
  unfold ents begs
  rcases flat_small (s := s) s.Cells.length 0 (by omega) (by omega) with h | ⟨b, h1, h2, h3, h4⟩
  · rw [h]; simp [flatF]
  · omega
theorem ents_right {s : api_Screen} (f : FewP s) : ∀ e ∈ ents s, RightF e s.Cells.length := fun e he => by
  obtain ⟨b, hb, rfl⟩ := List.mem_map.1 he
  have := begs_in b (List.mem_filter.1 hb).1
  exact ent_right f this.1 this.2.1
theorem bareF_cases (s : api_Screen) : bareF s = [] ∨ (bareF s = [⟨-1, ltrS s (ups s.Cells.length 0)⟩] ∧ ltrS s (ups s.Cells.length 0) ≠ []) := by
  unfold bareF
  by_cases h : ((ltrS s (ups s.Cells.length 0)).length : Int) > 0
  · rw [if_pos h]; exact .inr ⟨rfl, fun e => by rw [e] at h; simp at h⟩
  · rw [if_neg h]; exact .inl rfl
/-- What is told is right, and short; its letters are such. -/
theorem in_right {s : api_Screen} (f : FewP s) {x : Int} (ha : aidC x = true) : errI (inOf s x) s.Cells.length = .nil ∧ (flatF (inOf s x).Fields s.Cells.length).length ≤ 1200 ∧
    (∀ e ∈ (inOf s x).Fields, (e.Addr = -1 ∨ (0 ≤ e.Addr ∧ e.Addr < (s.Cells.length : Int))) ∧ ∀ y ∈ e.Text, 0 ≤ y ∧ y ≤ 254) := by
  have c0 := f.c0
  have c1 := f.c1
  have hl := f.len
  unfold inOf errI
  rw [isBare_eq]
  cases hb : bareC x with
  | true => simp only [cond_true, ha, if_true, hb]; exact ⟨by simp, by simp [flatF], fun e h => by cases h⟩
  | false =>
    simp only [cond_false, ha, if_true, hb, Bool.false_eq_true, if_false]
    rw [if_neg (by omega)]
    cases hf : fmt s with
    | true =>
      simp only [cond_true]
      have hr := ents_right f
      rw [(fW_none (ents s) 0).2 (fun e he => right_wrongF (hr e he))]
      refine ⟨rfl, ents_small hl, fun e he => ⟨.inr ⟨(hr e he).lo, (hr e he).hi⟩, fun y hy => ?_⟩⟩
      obtain ⟨b, hb', rfl⟩ := List.mem_map.1 he
      have := begs_in b (List.mem_filter.1 hb').1
      exact (ltrS_ok f (cells_in this.1 this.2.1) y hy).2
    | false =>
      simp only [cond_false]
      have hl1 := ltrS_len s (ups s.Cells.length 0)
      rw [ups_len] at hl1
      rcases bareF_cases s with h | ⟨h, hne⟩
      · rw [h]; exact ⟨rfl, by simp [flatF], fun e h => by cases h⟩
      · rw [h]
        have hk := ltrS_ok f (ups_C hf)
        have hw : wrongF ⟨-1, ltrS s (ups s.Cells.length 0)⟩ true s.Cells.length = 0 := by
          have e1 : (ltrS s (ups s.Cells.length 0)).all ltr = true := by rw [List.all_eq_true]; exact fun y hy => (hk y hy).1
          have e2 : (ltrS s (ups s.Cells.length 0)).isEmpty = false := by cases hq : ltrS s (ups s.Cells.length 0) with | nil => exact absurd hq hne | cons a b => rfl
          unfold wrongF
          simp only [e1, e2]
          simp
        refine ⟨?_, ?_, fun e he => ?_⟩
        · rw [(fW_none _ 0).2 (fun e he => by rw [List.mem_singleton] at he; subst he; exact hw)]
        · rw [flatF_cons]
          simp [flatF, putF]; omega
        · rw [List.mem_singleton] at he; subst he
          exact ⟨.inl rfl, fun y hy => (hk y hy).2⟩

/-! ### The document's answer -/
theorem refw9_loop {o : api_In} {n : Int} (n2 : n ≤ 16383) (hr : ∀ f ∈ o.Fields, f.Addr = -1 ∨ (0 ≤ f.Addr ∧ f.Addr < n)) (hl : o.Fields.length ≤ 1000) : ∀ (k : Nat) (acc : List Int) (i : Int), 0 ≤ i → i ≤ (o.Fields.length : Int) → (o.Fields.length : Int) - i < k → acc.length + (flatF (o.Fields.drop i.toNat) n).length ≤ 100000 →
    shutterref09_Write.l1.m KK o n k acc i = some (acc ++ flatF (o.Fields.drop i.toNat) n) := by
  intro k
  induction k with
  | zero => intro acc i _ _ h; omega
  | succ k ih =>
    intro acc i i0 i1 hk ha
    rw [shutterref09_Write.l1.m]
    simp only [letJ]
    by_cases h3 : i < (o.Fields.length : Int)
    · have hm := hr _ (at_memG i0 h3)
      rw [drop_atG i0 h3, flatF_cons, List.length_append, putF_len] at ha
      rw [if_pos h3, drop_atG i0 h3, flatF_cons]
      simp only [if_pos i0]
      rw [w64_id (by omega) (by omega)]
      rcases hm with e | ⟨e0, e1⟩
      · rw [if_pos e] at ha
        rw [if_neg (by omega), cond_false, appk (by omega), Option.bind_some, ih _ (i + 1) (by omega) (by omega) (by omega) (by rw [List.length_append]; omega)]
        unfold putF
        rw [if_pos e]; simp
      · rw [if_neg (by omega)] at ha
        have hp := put_len (at_ o.Fields i).Addr n
        rw [if_pos e0, cond_true, appk (by simp; omega), Option.bind_some, refput4 n2 e0 e1, Option.bind_some, appk (by simp; omega), Option.bind_some, appk (by simp; omega), Option.bind_some,
          ih _ (i + 1) (by omega) (by omega) (by omega) (by simp; omega)]
        unfold putF
        rw [if_neg (by omega)]; simp
    · rw [if_neg h3, List.drop_eq_nil_of_le (by omega)]; simp [flatF]
theorem refwrite9_eq {o : api_In} {n : Int} (n2 : n ≤ 16383) (he : errI o n = .nil) (hr : ∀ f ∈ o.Fields, f.Addr = -1 ∨ (0 ≤ f.Addr ∧ f.Addr < n)) (hl : o.Fields.length ≤ 1000) (hf : (flatF o.Fields n).length ≤ 8000) :
    writeI o n = ((writeI o n).1, .nil) ∧ shutterref09_Write.m KK o n = some (writeI o n).1 := by
  unfold writeI shutterref09_Write.m
  rw [if_pos he, refbare_eq, Option.bind_some]
  cases hb : bareC o.Aid with
  | true => exact ⟨rfl, rfl⟩
  | false =>
    simp only [Bool.false_eq_true, if_false, cond_false]
    rw [if_neg (by omega)]
    refine ⟨rfl, ?_⟩
    have hc : 0 ≤ o.Cursor ∧ o.Cursor < n := by
      unfold errI at he
      rw [hb] at he
      by_cases h : o.Cursor < 0 ∨ o.Cursor ≥ n
      · cases ha : aidC o.Aid with
        | false => rw [ha] at he; simp at he
        | true => rw [ha] at he; simp [h] at he
      · omega
    have hp := put_len o.Cursor n
    rw [refput4 n2 hc.1 hc.2, Option.bind_some, appk (by simp; omega), Option.bind_some, refw9_loop n2 hr hl KK _ 0 (by omega) (by omega) (by unfold KK; omega) (by simp [hp]; omega), Option.bind_some]
    simp
theorem wfK {y : Int} (h0 : 0 ≤ y) (h1 : y ≤ 254) : Wf .u8 y := by
  unfold Wf
  simp [Lit.wf, IntKind.min, IntKind.max, IntKind.signed, IntKind.bits]
  omega
theorem reply_image {s : api_Screen} (f : FewP s) : ∃ b, stream_Write.m KK ⟨241, ⟨false, false, false⟩, imgOf s⟩ s.Cells.length = some (b, .nil) ∧ shutterref08_Write.m KK ⟨241, ⟨false, false, false⟩, imgOf s⟩ s.Cells.length = some (b, 0, -1) ∧ b.length ≤ 100000 := by
  have c0 := f.c0
  have c1 := f.c1
  have hl := f.len
  obtain ⟨g1, g2⟩ := img_ok f
  obtain ⟨g3, g4⟩ := img_small f
  have hm := okL_mem _ _ g1
  have hlen : (imgOf s).length ≤ 1000 := by
    have := imgF_len s.Cells [⟨3, [], zA, 0, 0⟩]
    simp only [List.length_singleton] at this
    unfold imgOf
    simp only
    split
    · simp; omega
    · simp; omega
  have ht : ∀ x ∈ imgOf s, x.Text.length ≤ 9000 := fun x hx => by
    have := tot_mem hx; omega
  have hw : writeOf ⟨241, ⟨false, false, false⟩, imgOf s⟩ s.Cells.length = (241 :: putW ⟨false, false, false⟩ :: flatO (imgOf s) s.Cells.length, .nil) := by
    unfold writeOf
    rw [show knownC 241 = true from rfl, if_pos rfl, show writesC 241 = true from rfl, if_pos rfl]
    simp only
    rw [okL_ordW _ _ 0 g1]
    have := flatO_le (imgOf s) s.Cells.length
    simp only
    rw [if_neg (by omega)]
  refine ⟨_, by rw [swrite_eq (by omega) (by omega) (show tot (imgOf s) ≤ 600000 by omega) (fun x hx => Nat.le_trans (ht x hx) (by decide)) (show (imgOf s).length ≤ 100000 by omega), hw], ?_, ?_⟩
  · rw [refwrite_eq (by omega) (fun x hx => ⟨fun y hy => wfK ((hm x hx).u y hy).1 ((hm x hx).u y hy).2, by rw [(hm x hx).c]; exact wfK (by omega) (by omega)⟩) ⟨hlen, ht, show tot (imgOf s) ≤ 600000 by omega⟩, hw]
    rfl
  · have := flatO_le (imgOf s) s.Cells.length
    simp only [List.length_cons]; omega
theorem reply_in {s : api_Screen} (f : FewP s) {x : Int} (ha : aidC x = true) : ∃ b, input_Write.m KK (inOf s x) s.Cells.length = some (b, .nil) ∧ shutterref09_Write.m KK (inOf s x) s.Cells.length = some b ∧ b = (writeI (inOf s x) s.Cells.length).1 ∧ b.length ≤ 100000 := by
  have c0 := f.c0
  have c1 := f.c1
  have hl := f.len
  obtain ⟨h1, h2, h3⟩ := in_right f ha
  obtain ⟨s1, s2⟩ := in_small hl x
  obtain ⟨r1, r2⟩ := refwrite9_eq (by omega) h1 (fun e he => (h3 e he).1) (by omega) (by omega)
  refine ⟨_, by rw [write9_eq (by omega) (by omega) (by omega) (fun e he => by have := s2 e he; omega) (by omega)]; exact congrArg some r1, r2, rfl, ?_⟩
  have := writeI_len (o := inOf s x) (n := s.Cells.length)
  omega

theorem ReadReplies_true (x0 : api_Screen) (x1 x2 : Int) (_ : ok_api_Screen x0) (_ : Wf .i64 x1) (_ : Wf .u8 x2) : shutterlaw18_ReadReplies.m KK x0 x1 x2 = some true := by
  unfold shutterlaw18_ReadReplies.m
  obtain ⟨b, hb, hf⟩ := few_eq10 x0
  simp only [awake18, hb, Option.bind_some, cond_true, letJ]
  cases b with
  | false => rfl
  | true =>
    have f := hf rfl
    rw [cond_true]
    unfold read_Reply.m grid_Size.m
    simp only [letJ]
    by_cases h1 : x1 = 246
    · subst h1
      simp only [show ((246 : Int) = 242) = False from by simp, if_false, if_true, cond_true, cond_false, refaid_eq, Option.bind_some, modified_prog f (aid_eq x2)]
      cases ha : aidC x2 with
      | false =>
        rw [if_neg (show ¬ (modOf x0 x2 false).2 = GoErr.nil by simp [modOf]), Option.bind_some, cond_false]
        rfl
      | true =>
        obtain ⟨w, e1, e2, _, e4⟩ := reply_in f ha
        rw [if_pos (show (modOf x0 x2 true).2 = GoErr.nil from rfl), show (modOf x0 x2 true).1 = inOf x0 x2 from rfl, e1, Option.bind_some, Option.bind_some, cond_true]
        simp only [if_true, modified_ref f, Option.bind_some, e2, same_eq e4, beq_self_eq_true]
    · simp only [if_neg h1, cond_false]
      by_cases h2 : x1 = 242
      · obtain ⟨w, e1, e2, e4⟩ := reply_image f
        simp only [if_pos h2, cond_true, image_eq f, Option.bind_some, e1, imageref_eq f, e2, if_true, same_eq e4, beq_self_eq_true]
      · simp only [if_neg h2, cond_false, Option.bind_some]
        rfl
theorem tells_loop {s : api_Screen} (hl : s.Cells.length ≤ 200) : ∀ (m k : Nat) (c : Int) (b : Bool) (i : Int), 0 ≤ i → i + m = (s.Cells.length : Int) → m < k → 0 ≤ c → c ≤ i →
    shutterlaw18_ReadTells.l1.m KK s k c b i = some (c + ((((ups m i).filter (isF s)).filter (isM s)).length : Int), b || anyF s m i) := by
  intro m
  induction m with
  | zero =>
    intro k c b i i0 hm hk c0 c1
    cases k with
    | zero => omega
    | succ k => rw [shutterlaw18_ReadTells.l1.m, if_neg (by omega)]; simp [ups, anyF]
  | succ m ih =>
    intro k c b i i0 hm hk c0 c1
    cases k with
    | zero => omega
    | succ k =>
    rw [shutterlaw18_ReadTells.l1.m, if_pos (by omega)]
    simp only [letJ, if_pos i0]
    rw [w64_id (n := i + 1) (by omega) (by omega), w64_id (n := c + 1) (by omega) (by omega)]
    have ea : anyF s (m + 1) i = (isF s i || anyF s m (i + 1)) := by unfold anyF; rw [ups, List.any_cons]
    rw [ups, List.filter_cons, ea]
    cases hF : (at_ s.Cells i).Field with
    | false =>
      rw [show isF s i = false from hF]
      have e := fun b => ih k c b (i + 1) (by omega) (by omega) (by omega) c0 (by omega)
      cases b with
      | true => rw [cond_true, cond_false, e]; simp
      | false => rw [cond_false, cond_false, cond_false, e]; simp
    | true =>
      rw [show isF s i = true from hF, if_pos rfl, List.filter_cons]
      cases hM : (at_ s.Cells i).Attr.Modified with
      | false =>
        rw [show isM s i = false from hM]
        have e := fun b => ih k c b (i + 1) (by omega) (by omega) (by omega) c0 (by omega)
        cases b with
        | true => rw [cond_true, cond_true, cond_false, e]; simp
        | false => rw [cond_false, cond_true, cond_true, cond_false, e]; simp
      | true =>
        rw [show isM s i = true from hM]
        have e := fun b => ih k (c + 1) b (i + 1) (by omega) (by omega) (by omega) (by omega) (by omega)
        cases b with
        | true => rw [cond_true, cond_true, cond_true, e]; simp; omega
        | false => rw [cond_false, cond_true, cond_true, cond_true, e]; simp; omega
theorem ReadTells_true (x0 : api_Screen) (x1 : Int) (_ : ok_api_Screen x0) (w1 : Wf .u8 x1) : shutterlaw18_ReadTells.m KK x0 x1 = some true := by
  unfold shutterlaw18_ReadTells.m
  obtain ⟨b, hb, hf⟩ := few_eq10 x0
  simp only [awake18, hb, Option.bind_some, cond_true, letJ]
  cases b with
  | false => rfl
  | true =>
    have f := hf rfl
    have hl := f.len
    have c0 := f.c0
    have c1 := f.c1
    rw [cond_true, refaid_eq, Option.bind_some]
    cases ha : aidC x1 with
    | false => rfl
    | true =>
      obtain ⟨h1, h2, h3⟩ := in_right f ha
      obtain ⟨s1, s2⟩ := in_small hl x1
      obtain ⟨w, e1, e2, e3, e4⟩ := reply_in f ha
      have hm : read_Modified.m KK x0 x1 = some (inOf x0 x1, .nil) := by rw [modified_prog f (aid_eq x1), ha]; rfl
      have hr : read_Reply.m KK x0 246 x1 = some (w, .nil) := by
        unfold read_Reply.m grid_Size.m
        simp only [letJ, if_true, cond_true, hm, Option.bind_some, e1]
      have hn : (writeI (inOf x0 x1) x0.Cells.length).2 = .nil := by
        have := (refwrite9_eq (by omega) h1 (fun e he => (h3 e he).1) (by omega) (by omega)).1
        rw [this]
      have haid : (inOf x0 x1).Aid = x1 := by unfold inOf; cases isBare x1 <;> rfl
      have h8 : ∀ y ∈ w, Wf .u8 y := by
        rw [e3]
        exact writeI_u8 (by omega) (by omega) (by rw [haid]; exact w1) (fun e he y hy => wfK ((h3 e he).2 y hy).1 ((h3 e he).2 y hy).2) hn
      have hrd : input_Read.m KK w x0.Cells.length = some (inOf x0 x1, .nil) := by
        rw [read9_eq h8 (by omega) (by omega) e4, e3, readI_write (by omega) (by omega) hn]
      rw [cond_true, hm, Option.bind_some, hr, Option.bind_some]
      simp only
      rw [hrd, Option.bind_some]
      simp only [if_true]
      rw [sameI_eq (by omega) (fun e he => by have := s2 e he; omega), Option.bind_some, show (inOf x0 x1 == inOf x0 x1) = true from beq_self_eq_true _, cond_true, right9_eq (by omega) (fun e he => by have := s2 e he; omega), h1, Option.bind_some, if_pos rfl,
        tells_loop hl x0.Cells.length KK 0 false 0 (by omega) (by omega) (by unfold KK; omega) (by omega) (by omega), Option.bind_some]
      simp only [refbare_eq, Option.bind_some]
      cases hbr : bareC x1 with
      | true =>
        have : (inOf x0 x1).Fields = [] := by unfold inOf; rw [isBare_eq, hbr]; rfl
        rw [cond_true, this]; rfl
      | false =>
        rw [cond_false, cond_false, Bool.false_or]
        cases hfm : fmt x0 with
        | false => rw [show anyF x0 x0.Cells.length 0 = false from hfm]; rfl
        | true =>
          have : (inOf x0 x1).Fields = ents x0 := by unfold inOf; rw [isBare_eq, hbr, hfm]; rfl
          rw [show anyF x0 x0.Cells.length 0 = true from hfm, cond_true, this]
          unfold ents begs
          simp
end Go.Proofs.YtfbcjibdgicaoaaGreatDoor.Sx

