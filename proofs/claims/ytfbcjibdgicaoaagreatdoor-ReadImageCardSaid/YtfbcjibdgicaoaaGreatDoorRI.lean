/- Plain facts: an image, painted on an empty screen, is the screen. -/
import Derived.Test.YtfbcjibdgicaoaaGreatDoorRF
import Derived.Test.YtfbcjibdgicaoaaGreatDoorPI
namespace Go.Proofs.YtfbcjibdgicaoaaGreatDoor.Sx
open Go
set_option maxRecDepth 100000

theorem cellE {c : api_Cell} (h : shutterref10_Cell.m c = some true) : c = bif c.Field then ⟨true, c.Attr, 0⟩ else ⟨false, zA, c.Char⟩ := by
  obtain ⟨F, A, C⟩ := c
  obtain ⟨p, n, s, m⟩ := A
  unfold shutterref10_Cell.m at h
  simp only [letJ] at h
  cases F with
  | true =>
    simp only [cond_true] at h ⊢
    by_cases h1 : C = 0
    · subst h1; rfl
    · rw [if_neg h1] at h; cases h
  | false =>
    simp only [cond_false] at h ⊢
    cases hq : (p == false && (n == false && (s == 0 && (m == false && true)))) with
    | false => rw [hq, cond_false] at h; cases h
    | true =>
      simp only [Bool.and_eq_true, beq_iff_eq] at hq
      obtain ⟨rfl, rfl, rfl, rfl, _⟩ := hq
      rfl
/-- The cells that an order puts. -/
def den (o : api_Order) : List api_Cell := if o.Kind = 1 then o.Text.map (fun y => ⟨false, zA, y⟩) else if o.Kind = 2 then [⟨true, o.Attr, 0⟩] else []
def dens (l : List api_Order) : List api_Cell := (l.map den).flatten
theorem dens_app (l m : List api_Order) : dens (l ++ m) = dens l ++ dens m := by unfold dens; rw [List.map_append, List.flatten_append]
theorem dens_one (o : api_Order) : dens [o] = den o := by unfold dens; simp
theorem dens_cons (o : api_Order) (l : List api_Order) : dens (o :: l) = den o ++ dens l := by unfold dens; rw [List.map_cons, List.flatten_cons]
theorem imgF_dens : ∀ (cs : List api_Cell) (out : List api_Order), (∀ c ∈ cs, shutterref10_Cell.m c = some true) → out ≠ [] → dens (imgF cs out) = dens out ++ cs
  | [], out, _, _ => by rw [imgF, List.append_nil]
  | c :: cs, out, h, hne => by
    have hc := cellE (h c (List.mem_cons_self ..))
    have hr : ∀ c ∈ cs, shutterref10_Cell.m c = some true := fun x hx => h x (List.mem_cons_of_mem _ hx)
    rw [imgF]
    cases hF : c.Field with
    | true =>
      rw [hF, cond_true] at hc
      rw [cond_true, imgF_dens cs _ hr (by simp), dens_app, dens_one, List.append_assoc]
      exact congrArg (dens out ++ · :: cs) hc.symm
    | false =>
      rw [hF, cond_false] at hc
      rw [cond_false]
      cases hg : out.getLast? with
      | none => exact absurd (List.getLast?_eq_none_iff.1 hg) hne
      | some o =>
        simp only
        by_cases h1 : o.Kind = 1
        · rw [if_pos h1, imgF_dens cs _ hr (by simp), dens_app, dens_one]
          have ho : out = out.dropLast ++ [o] := by
            have hne' : out ≠ [] := hne
            have e2 : out.getLast hne' = o := Option.some.inj ((List.getLast?_eq_some_getLast hne').symm.trans hg)
            rw [← e2]; exact (List.dropLast_concat_getLast hne').symm
          have e1 : dens out = dens out.dropLast ++ den o := by
            have := dens_app out.dropLast [o]
            rw [← ho, dens_one] at this
            exact this
          rw [e1]
          unfold den
          rw [if_pos (show (tO (o.Text ++ [c.Char])).Kind = 1 from rfl), if_pos h1]
          simp only [tO, List.map_append, List.map_cons, List.map_nil, List.append_assoc, List.singleton_append]
          rw [← hc]
        · rw [if_neg h1, imgF_dens cs _ hr (by simp), dens_app, dens_one, List.append_assoc]
          exact congrArg (dens out ++ · :: cs) hc.symm
/-- Cells, put one behind the other. -/
def fill (n : Int) : List api_Cell → List api_Cell × Int → List api_Cell × Int
  | [], x => x
  | c :: cs, x => fill n cs (x.1.set x.2.toNat c, nxt n x.2)
theorem fill_app (n : Int) : ∀ (a b : List api_Cell) (x : List api_Cell × Int), fill n (a ++ b) x = fill n b (fill n a x)
  | [], _, _ => rfl
  | _ :: a, b, x => fill_app n a b _
theorem fill_in {n : Int} : ∀ (cs : List api_Cell) (x : List api_Cell × Int), (x.1.length : Int) = n → 0 ≤ x.2 → x.2 < n → ((fill n cs x).1.length : Int) = n ∧ 0 ≤ (fill n cs x).2 ∧ (fill n cs x).2 < n
  | [], _, h, h0, h1 => ⟨h, h0, h1⟩
  | c :: cs, x, h, h0, h1 => fill_in cs _ (by simpa using h) (nxt_in h0 h1).1 (nxt_in h0 h1).2
theorem fill_all {n : Nat} : ∀ (cs pre post : List api_Cell), pre.length + post.length = n → cs.length = post.length → 0 < cs.length → fill n cs (pre ++ post, (pre.length : Int)) = (pre ++ cs, 0)
  | [], _, _, _, _, h => by cases h
  | c :: cs, pre, post, h, hl, _ => by
    cases post with
    | nil => cases hl
    | cons p post =>
      have hs : (pre ++ p :: post).set pre.length c = (pre ++ [c]) ++ post := by
        rw [List.set_append_right _ _ (Nat.le_refl _), Nat.sub_self, List.set_cons_zero, List.append_assoc]; rfl
      rw [fill]
      simp only [Int.toNat_natCast]
      rw [hs]
      simp only [List.length_cons] at h hl
      by_cases h0 : cs = []
      · subst h0
        obtain rfl : post = [] := List.eq_nil_of_length_eq_zero (by simp only [List.length_nil] at hl; omega)
        simp only [fill, List.append_nil]
        unfold nxt
        rw [if_pos (by simp only [List.length_nil] at h; omega)]
      · have hpc : (pre ++ [c]).length = pre.length + 1 := by simp
        have hp0 := List.length_pos_iff.2 h0
        have := fill_all (n := n) cs (pre ++ [c]) post (by rw [hpc]; omega) (by omega) hp0
        unfold nxt
        rw [if_neg (by omega)]
        rw [hpc, Int.natCast_add] at this
        rw [show ((pre.length : Int) + 1) = (pre.length : Int) + ((1 : Nat) : Int) from rfl, this, List.append_assoc]
        rfl
/-- A brush. -/
def br_ (r c : Int) (x : List api_Cell × Int) (k : Int) (l i : Bool) : paint_brush := ⟨⟨r, c, x.1, k, l, i⟩, x.2⟩
section
variable {r c k : Int} {l i : Bool} {n : Nat}
theorem put_fill (hn : n ≤ 200) {x : List api_Cell × Int} (h : x.1.length = n) (h0 : 0 ≤ x.2) (h1 : x.2 < (n : Int)) (d : api_Cell) : paint_brush_put.m (br_ r c x k l i) d = some (br_ r c (fill n [d] x) k l i) := by
  unfold paint_brush_put.m br_
  simp only
  rw [if_pos h0, if_pos (by omega), on_next (s := ⟨r, c, x.1.set x.2.toNat d, k, l, i⟩) (by simp; omega) h0 (by simp; omega), Option.bind_some]
  simp only [fill, List.length_set, h]
theorem do1_loop (hn : n ≤ 200) {o : api_Order} (ht : o.Text.length ≤ 1000) : ∀ (f : Nat) (j : Int) (x : List api_Cell × Int), 0 ≤ j → j ≤ (o.Text.length : Int) → (o.Text.length : Int) - j < f → x.1.length = n → 0 ≤ x.2 → x.2 < (n : Int) →
    paint_brush_do.l1.m KK o f j r c x.1 k l i x.2 = some (r, c, (fill n ((o.Text.drop j.toNat).map (fun y => ⟨false, zA, y⟩)) x).1, k, l, i, (fill n ((o.Text.drop j.toNat).map (fun y => ⟨false, zA, y⟩)) x).2) := by
  intro f
  induction f with
  | zero => intro j x _ _ h; omega
  | succ f ih =>
    intro j x j0 j1 hf hx h0 h1
    rw [paint_brush_do.l1.m]
    by_cases h3 : j < (o.Text.length : Int)
    · have hp := put_fill (r := r) (c := c) (k := k) (l := l) (i := i) hn hx h0 h1 ⟨false, zA, at_ o.Text j⟩
      unfold br_ at hp
      rw [if_pos h3, if_pos j0, show (⟨false, (⟨false, false, 0, false⟩ : api_Attr), at_ o.Text j⟩ : api_Cell) = ⟨false, zA, at_ o.Text j⟩ from rfl, hp, Option.bind_some, w64_id (by omega) (by omega)]
      have hi := fill_in (n := n) [⟨false, zA, at_ o.Text j⟩] x (by omega) h0 h1
      rw [ih (j + 1) (fill n [⟨false, zA, at_ o.Text j⟩] x) (by omega) (by omega) (by omega) (by omega) hi.2.1 hi.2.2, drop_atG j0 h3, List.map_cons]
      rfl
    · rw [if_neg h3, List.drop_eq_nil_of_le (by omega)]; rfl
theorem do_den (hn : n ≤ 200) {o : api_Order} (ht : o.Text.length ≤ 1000) (ho : o.Kind = 1 ∨ o.Kind = 2) {x : List api_Cell × Int} (hx : x.1.length = n) (h0 : 0 ≤ x.2) (h1 : x.2 < (n : Int)) :
    paint_brush_do.m KK (br_ r c x k l i) o = some (br_ r c (fill n (den o) x) k l i) := by
  unfold paint_brush_do.m den
  rcases ho with e | e
  · rw [if_pos e, if_pos e]
    simp only [br_]
    rw [do1_loop hn ht KK 0 x (by omega) (by omega) (by unfold KK; omega) hx h0 h1, Option.bind_some]
    rfl
  · rw [if_neg (by omega), if_pos e, if_neg (by omega), if_pos e, put_fill hn hx h0 h1, Option.bind_some]
/-- Orders, done one behind the other. -/
def runB : List api_Order → paint_brush → Option paint_brush
  | [], b => some b
  | o :: l, b => (paint_brush_do.m KK b o).bind (runB l)
theorem runB_app : ∀ (a d : List api_Order) (b : paint_brush), runB (a ++ d) b = (runB a b).bind (runB d)
  | [], d, b => rfl
  | o :: a, d, b => by
    show (paint_brush_do.m KK b o).bind (runB (a ++ d)) = ((paint_brush_do.m KK b o).bind (runB a)).bind (runB d)
    cases paint_brush_do.m KK b o with
    | none => rfl
    | some b' => exact runB_app a d b'
theorem runB_den (hn : n ≤ 200) : ∀ (L : List api_Order) (x : List api_Cell × Int), (∀ o ∈ L, (o.Kind = 1 ∨ o.Kind = 2) ∧ o.Text.length ≤ 1000) → x.1.length = n → 0 ≤ x.2 → x.2 < (n : Int) →
    runB L (br_ r c x k l i) = some (br_ r c (fill n (dens L) x) k l i)
  | [], x, _, _, _, _ => rfl
  | o :: L, x, h, hx, h0, h1 => by
    have ho := h o (List.mem_cons_self ..)
    have hi := fill_in (n := n) (den o) x (by omega) h0 h1
    rw [runB, do_den hn ho.2 ho.1 hx h0 h1, Option.bind_some, runB_den hn L _ (fun o' h' => h o' (List.mem_cons_of_mem _ h')) (by omega) hi.2.1 hi.2.2, dens_cons, fill_app]
theorem all2_loop {L : List api_Order} (hL : L.length ≤ 1000) : ∀ (f : Nat) (j : Int) (b b' : paint_brush), 0 ≤ j → j ≤ (L.length : Int) → (L.length : Int) - j < f → runB (L.drop j.toNat) b = some b' →
    paint_All.l2.m KK L f j b.s'.Rows b.s'.Cols b.s'.Cells b.s'.Cursor b.s'.Locked b.s'.Insert b.at' = some (b'.s'.Rows, b'.s'.Cols, b'.s'.Cells, b'.s'.Cursor, b'.s'.Locked, b'.s'.Insert, b'.at') := by
  intro f
  induction f with
  | zero => intro j b b' _ _ h; omega
  | succ f ih =>
    intro j b b' j0 j1 hf hb
    rw [paint_All.l2.m]
    simp only [letJ]
    by_cases h3 : j < (L.length : Int)
    · rw [drop_atG j0 h3, runB] at hb
      obtain ⟨b1, hb1, hb2⟩ := Option.bind_eq_some_iff.1 hb
      rw [if_pos h3, cond_true, if_pos j0, if_pos h3, etaO, hb1, Option.bind_some, w64_id (by omega) (by omega)]
      exact ih (j + 1) b1 b' (by omega) (by omega) (by omega) hb2
    · rw [List.drop_eq_nil_of_le (by omega), runB] at hb
      obtain rfl := Option.some.inj hb
      rw [if_neg h3, cond_false]
end
theorem all1_loop {s : api_Screen} {x : Int} {L : List api_Order} (hL : L.length ≤ 1000) (hr : ∀ o ∈ L, RightO o s.Cells.length ∧ o.Text.length ≤ 1000) : ∀ (f : Nat) (j : Int), 0 ≤ j → j ≤ (L.length : Int) → (L.length : Int) - j < f →
    paint_All.l1.m KK s x L f j = some (.inr ()) := by
  intro f
  induction f with
  | zero => intro j _ _ h; omega
  | succ f ih =>
    intro j j0 j1 hf
    rw [paint_All.l1.m]
    simp only [letJ]
    by_cases h3 : j < (L.length : Int)
    · have hm := hr _ (at_in j0 h3)
      rw [if_pos h3, cond_true, if_pos j0, if_pos h3]
      unfold grid_Size.m
      rw [Option.bind_some, etaO, right_eq (by omega), Option.bind_some, right_iff.2 hm.1, if_pos (show errOf 0 = GoErr.nil from rfl), cond_false, w64_id (by omega) (by omega)]
      exact ih (j + 1) (by omega) (by omega) (by omega)
    · rw [if_neg h3, cond_false]
theorem few_rc {s : api_Screen} (h : shutterref10_Few.m KK s = some true) : 1 ≤ s.Rows ∧ 1 ≤ s.Cols ∧ s.Rows ≤ 16383 ∧ s.Cols ≤ 16383 ∧ s.Rows * s.Cols ≤ 16383 ∧ (s.Cells.length : Int) = s.Rows * s.Cols := by
  unfold shutterref10_Few.m at h
  by_cases hl : (s.Cells.length : Int) ≤ 200
  · rw [if_pos hl] at h
    unfold shutterref10_Right.m at h
    cases hq : shutterref10_Sized.m s.Rows s.Cols with
    | none => rw [hq] at h; cases h
    | some b =>
      rw [hq, Option.bind_some] at h
      cases b with
      | false => rw [cond_false] at h; cases h
      | true =>
        rw [cond_true] at h
        unfold shutterref10_Sized.m at hq
        by_cases h1 : s.Rows ≥ 1
        · by_cases h2 : s.Cols ≥ 1
          · by_cases h3 : s.Rows ≤ 16383
            · by_cases h4 : s.Cols ≤ 16383
              · rw [if_pos h1, if_pos h2, if_pos h3, if_pos h4] at hq
                have h5 : w64 (s.Rows * s.Cols) ≤ 16383 := by simpa using hq
                have hm : s.Rows * s.Cols ≤ 16383 * 16383 := Int.mul_le_mul h3 h4 (by omega) (by omega)
                have hm0 : 0 ≤ s.Rows * s.Cols := Int.mul_nonneg (by omega) (by omega)
                rw [w64_id (by omega) (by omega)] at h5 h
                by_cases h6 : (s.Cells.length : Int) = s.Rows * s.Cols
                · exact ⟨h1, h2, h3, h4, h5, h6⟩
                · rw [if_neg h6] at h; cases h
              · rw [if_pos h1, if_pos h2, if_pos h3, if_neg h4] at hq; cases hq
            · rw [if_pos h1, if_pos h2, if_neg h3] at hq; cases hq
          · rw [if_pos h1, if_neg h2] at hq; cases hq
        · rw [if_neg h1] at hq; cases hq
  · rw [if_neg hl] at h; cases h
theorem mkk {α : Type} {n : Int} {z : α} (h0 : 0 ≤ n) (h1 : n ≤ 100000) : mk n z = some (List.replicate n.toNat z) := by
  unfold mk Lim
  rw [if_pos (by omega)]
def zC : api_Cell := ⟨false, zA, 0⟩
theorem new_few {s : api_Screen} (h : shutterref10_Few.m KK s = some true) : grid_New.m s.Rows s.Cols = some (⟨s.Rows, s.Cols, List.replicate s.Cells.length zC, 0, false, false⟩, .nil) := by
  obtain ⟨h1, h2, h3, h4, h5, h6⟩ := few_rc h
  unfold grid_New.m
  have hd : ¬ s.Cols > w64 (Int.tdiv 16383 s.Rows) := by
    have e : Int.tdiv 16383 s.Rows = 16383 / s.Rows := Int.tdiv_eq_ediv_of_nonneg (by omega)
    have hle : s.Cols ≤ 16383 / s.Rows := (Int.le_ediv_iff_mul_le (by omega)).2 (by rw [Int.mul_comm]; exact h5)
    have hup : 16383 / s.Rows ≤ 16383 := Int.ediv_le_self _ (by omega)
    rw [e, w64_id (by omega) (by omega)]
    omega
  rw [if_neg (by omega), if_neg (by omega), if_neg (by omega), if_pos (by omega), if_neg hd, w64_id (by omega) (by omega), mkk (by omega) (by omega), Option.bind_some, ← h6, Int.toNat_natCast]
  rfl
theorem imgF_tail {p : api_Order} (hp : p.Kind ≠ 1) : ∀ (cs : List api_Cell) (out : List api_Order), (∀ o ∈ out, o.Kind = 1 ∨ o.Kind = 2) → ∃ l, imgF cs (p :: out) = p :: l ∧ ∀ o ∈ l, o.Kind = 1 ∨ o.Kind = 2
  | [], out, h => ⟨out, rfl, h⟩
  | c :: cs, out, h => by
    rw [imgF]
    cases hF : c.Field with
    | true =>
      rw [cond_true, List.cons_append]
      refine imgF_tail hp cs _ fun o ho => ?_
      rcases List.mem_append.1 ho with q | q
      · exact h o q
      · rw [List.mem_singleton] at q; subst q; exact .inr rfl
    | false =>
      rw [cond_false]
      have one : ∀ x : api_Order, x.Kind = 1 → ∀ l : List api_Order, (∀ o ∈ l, o ∈ out) → ∀ o ∈ l ++ [x], o.Kind = 1 ∨ o.Kind = 2 := fun x hx l hl o ho => by
        rcases List.mem_append.1 ho with q | q
        · exact h o (hl o q)
        · rw [List.mem_singleton] at q; subst q; exact .inl hx
      cases out with
      | nil =>
        simp only [List.getLast?_singleton]
        rw [if_neg hp]
        exact imgF_tail hp cs [tO [c.Char]] fun o ho => by rw [List.mem_singleton] at ho; subst ho; exact .inl rfl
      | cons x out =>
        rw [List.getLast?_cons_cons]
        cases hg : (x :: out).getLast? with
        | none => exact absurd (List.getLast?_eq_none_iff.1 hg) (by simp)
        | some o =>
          simp only
          by_cases h1 : o.Kind = 1
          · rw [if_pos h1, List.dropLast_cons_cons, List.cons_append]
            exact imgF_tail hp cs _ (one _ rfl _ fun _ q => (List.dropLast_subset _) q)
          · rw [if_neg h1, List.cons_append]
            exact imgF_tail hp cs _ (one _ rfl _ fun _ q => q)
theorem do_set {r c k at' : Int} {l i : Bool} {x : List api_Cell} {a : Int} : paint_brush_do.m KK ⟨⟨r, c, x, k, l, i⟩, at'⟩ ⟨3, [], zA, a, 0⟩ = some ⟨⟨r, c, x, k, l, i⟩, a⟩ := rfl
theorem do_cur {r c k at' : Int} {l i : Bool} {x : List api_Cell} : paint_brush_do.m KK ⟨⟨r, c, x, k, l, i⟩, at'⟩ ⟨4, [], zA, 0, 0⟩ = some ⟨⟨r, c, x, at', l, i⟩, at'⟩ := rfl
theorem paint_img {s : api_Screen} (f : FewP s) (h : shutterref10_Few.m KK s = some true) : runB (imgOf s) ⟨⟨s.Rows, s.Cols, List.replicate s.Cells.length zC, 0, false, false⟩, 0⟩ = some ⟨⟨s.Rows, s.Cols, s.Cells, s.Cursor, false, false⟩, s.Cursor⟩ := by
  have hl := f.len
  have c0 := f.c0
  have c1 := f.c1
  obtain ⟨L, e1, e2⟩ := imgF_tail (p := ⟨3, [], zA, 0, 0⟩) (by decide) s.Cells [] (fun _ q => by cases q)
  have hd : dens L = s.Cells := by
    have := imgF_dens s.Cells [⟨3, [], zA, 0, 0⟩] f.cell (by simp)
    rw [e1, dens_cons, dens_one] at this
    simpa [den] using this
  have ht : ∀ o ∈ L, o.Text.length ≤ 1000 := fun o ho => by
    have := imgF_text (m := 1000) s.Cells [⟨3, [], zA, 0, 0⟩] 0 (by simp) (by omega) o (by rw [e1]; exact List.mem_cons_of_mem _ ho)
    exact this
  have hr := runB_den (r := s.Rows) (c := s.Cols) (k := 0) (l := false) (i := false) (n := s.Cells.length) hl L (List.replicate s.Cells.length zC, 0) (fun o ho => ⟨e2 o ho, ht o ho⟩) (by simp) (by omega) (by omega)
  have hfill : fill s.Cells.length s.Cells (List.replicate s.Cells.length zC, 0) = (s.Cells, 0) := by
    have := fill_all (n := s.Cells.length) s.Cells [] (List.replicate s.Cells.length zC) (by simp) (by simp) (by omega)
    simpa using this
  rw [hd, hfill] at hr
  unfold br_ at hr
  unfold imgOf
  simp only
  rw [e1]
  by_cases hc : s.Cursor = 0
  · rw [if_pos hc, List.cons_append, runB, do_set, Option.bind_some, runB_app, hr, Option.bind_some, runB, do_cur, Option.bind_some, runB, hc]
  · rw [if_neg hc, List.append_assoc, List.cons_append, runB, do_set, Option.bind_some, runB_app, hr, Option.bind_some]
    show runB [⟨3, [], zA, s.Cursor, 0⟩, ⟨4, [], zA, 0, 0⟩] _ = _
    rw [runB, do_set, Option.bind_some, runB, do_cur, Option.bind_some, runB]
theorem same10_loop {a b : api_Screen} (h : a.Cells = b.Cells) (hl : a.Cells.length ≤ 200) : ∀ (f : Nat) (j : Int), 0 ≤ j → j ≤ (a.Cells.length : Int) → (a.Cells.length : Int) - j < f → shutterref10_Same.l1.m KK a b f j = some (.inr ()) := by
  intro f
  induction f with
  | zero => intro j _ _ h; omega
  | succ f ih =>
    intro j j0 j1 hf
    rw [shutterref10_Same.l1.m]
    by_cases h3 : j < (a.Cells.length : Int)
    · rw [if_pos h3, if_pos j0, if_pos (by rw [← h]; exact h3), ← h]
      simp only [beq_self_eq_true, Bool.and_self, cond_true]
      rw [w64_id (by omega) (by omega)]
      exact ih (j + 1) (by omega) (by omega) (by omega)
    · rw [if_neg h3]
theorem same10_refl {s : api_Screen} (hl : s.Cells.length ≤ 200) : shutterref10_Same.m KK s s = some true := by
  unfold shutterref10_Same.m
  simp only [if_true, bne_self_eq_false, cond_false]
  rw [same10_loop rfl hl KK 0 (by omega) (by omega) (by unfold KK; omega), Option.bind_some]
theorem etaS (s : api_Screen) : (⟨s.Rows, s.Cols, s.Cells, s.Cursor, s.Locked, s.Insert⟩ : api_Screen) = s := rfl
theorem ReadImage_true (x0 : api_Screen) (_ : ok_api_Screen x0) : shutterlaw18_ReadImage.m KK x0 = some true := by
  unfold shutterlaw18_ReadImage.m
  obtain ⟨b, hb, hf⟩ := few_eq10 x0
  simp only [awake18, hb, Option.bind_some, cond_true]
  cases b with
  | false => rfl
  | true =>
    have f := hf rfl
    have c0 := f.c0
    have c1 := f.c1
    have hl := f.len
    obtain ⟨g1, g2⟩ := img_ok f
    obtain ⟨g3, g4⟩ := img_small f
    have hm := okL_mem _ _ g1
    have hlen : (imgOf x0).length ≤ 1000 := by
      have := imgF_len x0.Cells [⟨3, [], zA, 0, 0⟩]
      simp only [List.length_singleton] at this
      unfold imgOf
      simp only
      split
      · simp; omega
      · simp; omega
    have ht : ∀ x ∈ imgOf x0, x.Text.length ≤ 1000 := fun x hx => by
      have := imgF_text (m := 300) x0.Cells [⟨3, [], zA, 0, 0⟩] 0 (by simp) (by omega)
      have h2 : ∀ o ∈ imgOf x0, o.Text.length ≤ 300 := by
        intro o ho
        unfold imgOf at ho
        simp only at ho
        split at ho
        · rcases List.mem_append.1 ho with q | q
          · exact this o q
          · rw [List.mem_singleton] at q; subst q; simp
        · rcases List.mem_append.1 ho with q | q
          · rcases List.mem_append.1 q with q | q
            · exact this o q
            · rw [List.mem_singleton] at q; subst q; simp
          · rw [List.mem_singleton] at q; subst q; simp
      have := h2 x hx; omega
    have hw : (writeOf ⟨241, zW, imgOf x0⟩ x0.Cells.length).2 = .nil := by
      unfold writeOf
      rw [show knownC 241 = true from rfl, if_pos rfl, show writesC 241 = true from rfl, if_pos rfl]
      simp only
      rw [okL_ordW _ _ 0 g1]
      have := flatO_le (imgOf x0) x0.Cells.length
      simp only
      rw [if_neg (by omega)]
    have hsw := swrite_eq (o := ⟨241, zW, imgOf x0⟩) (n := x0.Cells.length) (by omega) (by omega) (show tot (imgOf x0) ≤ 600000 by omega) (fun x hx => by have := ht x hx; omega) (show (imgOf x0).length ≤ 100000 by omega)
    have hrd := readOf_write (o := ⟨241, zW, imgOf x0⟩) (n := x0.Cells.length) (by omega) (by omega) hw
    have hu := writeOf_u8' (o := ⟨241, zW, imgOf x0⟩) (n := x0.Cells.length) (by omega) (by omega) (fun x hx => ⟨fun y hy => wfK ((hm x hx).u y hy).1 ((hm x hx).u y hy).2, by rw [(hm x hx).c]; exact wfK (by omega) (by omega)⟩)
    have hlw := writeOf_len (o := ⟨241, zW, imgOf x0⟩) (n := x0.Cells.length)
    generalize hW : writeOf ⟨241, zW, imgOf x0⟩ x0.Cells.length = W at *
    obtain ⟨bs, e⟩ := W
    simp only at hw hrd hu hlw
    subst hw
    have hsr := sread_eq (b := bs) (n := x0.Cells.length) hu (by omega)
    rw [hrd] at hsr
    have hpaint := paint_img f hb
    have hp : paint_All.m KK ⟨x0.Rows, x0.Cols, List.replicate x0.Cells.length zC, 0, false, false⟩ 0 (imgOf x0) = some (⟨x0.Rows, x0.Cols, x0.Cells, x0.Cursor, false, false⟩, x0.Cursor, .nil) := by
      unfold paint_All.m
      rw [all1_loop hlen (fun o ho => ⟨by simpa using (hm o ho).r, ht o ho⟩) KK 0 (by omega) (by omega) (by unfold KK; omega), Option.bind_some]
      simp only
      unfold grid_Copy.m slices_Clone_api_Cell.m
      have h2 := all2_loop hlen KK 0 ⟨⟨x0.Rows, x0.Cols, List.replicate x0.Cells.length zC, 0, false, false⟩, 0⟩ ⟨⟨x0.Rows, x0.Cols, x0.Cells, x0.Cursor, false, false⟩, x0.Cursor⟩ (by omega) (by omega) (by unfold KK; omega) hpaint
      simp only at h2
      rw [appk (by simp; omega), Option.bind_some, List.nil_append, Option.bind_some, Option.bind_some]
      simp only
      rw [h2, Option.bind_some]
    rw [cond_true]
    unfold read_Reply.m grid_Size.m
    simp only [letJ, show ((242 : Int) = 246) = False from by simp, if_false, if_true, cond_true, cond_false, image_eq f, Option.bind_some]
    rw [show (⟨241, (⟨false, false, false⟩ : api_Wcc), imgOf x0⟩ : api_Out) = ⟨241, zW, imgOf x0⟩ from rfl, hsw, Option.bind_some, Option.bind_some]
    simp only
    rw [hsr, Option.bind_some, new_few hb, Option.bind_some]
    simp only
    rw [hp, Option.bind_some]
    simp only [if_true, etaS, same10_refl hl, Option.bind_some]
end Go.Proofs.YtfbcjibdgicaoaaGreatDoor.Sx

