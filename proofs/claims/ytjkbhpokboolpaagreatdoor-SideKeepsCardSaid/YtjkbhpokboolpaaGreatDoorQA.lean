import Derived.Test.YtjkbhpokboolpaaGreatDoorSS
import Derived.Test.YtjkbhpokboolpaaGreatDoorGE
import Derived.Test.YtjkbhpokboolpaaGreatDoorFA
namespace Go.Proofs.YtjkbhpokboolpaaGreatDoor.Sx
open Go
set_option maxRecDepth 100000
set_option maxHeartbeats 4000000
structure U5 (s : api_Screen) : Prop where
  u : US s
  r : s.Rows = 1
  c : s.Cols = 5
  n : s.Cells.length = 5
theorem c5 : ((5 : Nat) : Int) = 5 := rfl
theorem U5.with {s : api_Screen} (v : U5 s) {l : List api_Cell} (h : CO s.Cells.length l) {c : Int} (c0 : 0 ≤ c) (c1 : c < 5) (a b : Bool) : U5 ⟨s.Rows, s.Cols, l, c, a, b⟩ :=
  ⟨(v.u.with h c0 (by rw [v.n]; exact c1) s.Rows a b).1, v.r, v.c, h.1.trans v.n⟩
theorem U5.lt {s : api_Screen} (v : U5 s) : s.Cursor < 5 := by have := v.u.c1; rw [v.n] at this; exact this
def zC : api_Cell := ⟨false, ⟨false, false, 0, false⟩, 0⟩
def S0 : api_Screen := ⟨1, 5, [zC, zC, zC, zC, zC], 0, false, false⟩
def u5b (t : api_Screen) : Bool := decide (t.Rows = 1) && decide (t.Cols = 5) && decide (t.Cells.length = 5) && decide (0 ≤ t.Cursor) && decide (t.Cursor < 5) &&
  t.Cells.all fun c => decide (c.Field = false) && decide (c.Attr = ⟨false, false, 0, false⟩) && (decide (c.Char = 0) || decide (c.Char = 28) || decide (c.Char = 30))
theorem u5b_ok {t : api_Screen} (h : u5b t = true) : U5 t := by
  unfold u5b at h
  simp only [Bool.and_eq_true, decide_eq_true_eq, List.all_eq_true, Bool.or_eq_true] at h
  obtain ⟨⟨⟨⟨⟨h1, h2⟩, h3⟩, h4⟩, h5⟩, h6⟩ := h
  refine ⟨⟨by omega, by omega, by omega, by omega, fun c hc => ?_, h4, by omega⟩, h1, h2, h3⟩
  obtain ⟨⟨a, b⟩, d⟩ := h6 c hc
  refine ⟨a, b, ?_, ?_⟩
  · rcases d with (d | d) | d <;> rw [d] <;> exact wf8i (by decide) (by decide)
  · rcases d with (d | d) | d
    · exact .inl d
    · rw [d]; exact .inr (by decide)
    · rw [d]; exact .inr (by decide)
theorem S0_ok : U5 S0 := u5b_ok (by decide)
theorem letter_K {b : Int} (h0 : 0 ≤ b) (h1 : b ≤ 255) : shutterref09_Letter.m b = some (ltr b) := by
  unfold shutterref09_Letter.m shutterref05_Char.m ltr chr
  by_cases e : b = 0
  · subst e; rfl
  · rw [if_neg e, if_neg e]
    by_cases e1 : b = 28
    · subst e1; rfl
    · rw [if_neg e1]
      by_cases e2 : b = 30
      · subst e2; rfl
      · rw [if_neg e2]
        by_cases e3 : b ≥ 64
        · rw [if_pos e3, Option.bind_some]
          congr 1
          rw [Bool.eq_iff_iff]
          simp
          omega
        · rw [if_neg e3, Option.bind_some]
          congr 1
          rw [Bool.eq_iff_iff]
          simp
          omega
section
variable {s : api_Screen}
theorem rcopyU (u : US s) : shutterref10_Copy.m s = some s := by
  unfold shutterref10_Copy.m
  rw [appk (by have := u.len; simp; omega)]
  rfl
end
def KL (p : Option (api_Screen × Bool × GoErr)) (q : Option (api_Screen × Bool × Int × Int)) (ch : Int) : Prop :=
  ∃ t a e w i, p = some (t, a, e) ∧ q = some (t, a, w, i) ∧ codeOf e = w ∧ U5 t ∧ (a = true → aidC ch = true ∧ e = .nil)
def okQ (k : api_Key) : Bool := match keys_Do.m KK S0 k, shutterref17_Do.m KK S0 k with
  | some (t, a, e), some (t', a', w, _) => decide (t = t') && !a && !a' && decide (codeOf e = w) && u5b t
  | _, _ => false
theorem okQ_ok {k : api_Key} (h : okQ k = true) : KL (keys_Do.m KK S0 k) (shutterref17_Do.m KK S0 k) k.Char := by
  unfold okQ at h
  split at h
  · rename_i t a e t' a' w i h1 h2
    simp only [Bool.and_eq_true, decide_eq_true_eq, Bool.not_eq_true'] at h
    obtain ⟨⟨⟨⟨rfl, rfl⟩, rfl⟩, h4⟩, h5⟩ := h
    exact ⟨t, false, e, w, i, h1, h2, h4, u5b_ok h5, fun x => by cases x⟩
  · cases h
theorem typeQ {c : Int} (c0 : 0 ≤ c) (c1 : c ≤ 255) : ∃ t e w a, edit_Type.m KK S0 c = some (t, e) ∧ shutterref14_Type.m KK S0 c = some (t, w, a) ∧ codeOf e = w ∧ U5 t := by
  have f := fitsU S0_ok.u c
  unfold edit_Type.m shutterref14_Type.m
  rw [letter_K c0 c1, Option.bind_some, f]
  simp only [letJ]
  by_cases cz : c = 0
  · subst cz
    exact ⟨S0, .no 3, 3, -1, rfl, rfl, rfl, S0_ok⟩
  rw [if_neg cz, char_eq, Option.bind_some]
  have lc : ltr c = chr c := by unfold ltr; rw [show (c != 0) = true by simpa using cz]; rfl
  rw [lc]
  cases cc : chr c with
  | false => exact ⟨S0, .no 3, 3, -1, rfl, rfl, rfl, S0_ok⟩
  | true =>
    refine ⟨⟨1, 5, [⟨false, ⟨false, false, 0, false⟩, c⟩, zC, zC, zC, zC], 1, false, false⟩, .nil, 0, -1, by kernel_rfl, by kernel_rfl, rfl, ?_⟩
    refine ⟨⟨by simp, by simp, by show (1 : Int) ≤ 5; decide, by show (5 : Int) ≤ 200; decide, fun x hx => ?_, by show (0 : Int) ≤ 1; decide, by simp⟩, rfl, rfl, rfl⟩
    rcases List.mem_cons.1 hx with rfl | hx
    · exact ⟨rfl, rfl, wf8i c0 c1, .inr (lc.trans cc)⟩
    · simp only [List.mem_cons, List.not_mem_nil, or_false, or_self] at hx
      rw [hx]; exact okz
theorem keyQ {k : api_Key} (h0 : 0 ≤ k.Char) (h1 : k.Char ≤ 255) : KL (keys_Do.m KK S0 k) (shutterref17_Do.m KK S0 k) k.Char := by
  obtain ⟨kind, ch⟩ := k
  simp only at h0 h1 ⊢
  by_cases k1 : kind = 1
  · subst k1
    obtain ⟨t, e, w, a, e1, e2, hc, ht⟩ := typeQ h0 h1
    unfold keys_Do.m shutterref17_Do.m keys_plain.m
    simp only [letJ, show ¬ ((1 : Int) = 17) from by decide, show ¬ ((1 : Int) = 10) from by decide, show ¬ ((1 : Int) = 11) from by decide, if_true, if_false, cond_true, cond_false, show move_Moves.m 1 = some false from rfl, show wipe_Wipes.m 1 = some false from rfl, Option.bind_some, e1, e2]
    exact ⟨t, false, e, w, a, rfl, rfl, hc, ht, fun x => by cases x⟩
  by_cases k17 : kind = 17
  · subst k17
    have l : S0.Locked = false := rfl
    have cp : grid_Copy.m S0 = some S0 := copyU S0_ok.u
    have rc : shutterref10_Copy.m S0 = some S0 := rcopyU S0_ok.u
    have e : mk (S0.Cells.length : Int) zC = some [zC, zC, zC, zC, zC] := by kernel_rfl
    unfold keys_Do.m shutterref17_Do.m
    simp only [letJ, if_true, cond_true, cond_false, show ¬ ((17 : Int) = 16) from by decide, show ¬ ((17 : Int) = 15) from by decide, show ¬ ((17 : Int) = 1) from by decide, show ¬ ((17 : Int) = 10) from by decide, show ¬ ((17 : Int) = 11) from by decide, show ((17 : Int) ≥ 2) from by decide, show ¬ ((17 : Int) ≤ 9) from by decide, show ((17 : Int) ≥ 12) from by decide, show ¬ ((17 : Int) ≤ 14) from by decide, if_false, Option.bind_some, rc]
    unfold keys_asks.m
    simp only [letJ, aid_eq, refaid_eq, Option.bind_some]
    cases ha : aidC ch with
    | false => exact ⟨S0, false, .no 3, 3, -1, rfl, rfl, rfl, S0_ok, fun x => by cases x⟩
    | true =>
      simp only [cond_true, cond_false, l, cp, Option.bind_some]
      by_cases h9 : ch = 109
      · have e' : mk (S0.Cells.length : Int) (⟨false, (⟨false, false, 0, false⟩ : api_Attr), 0⟩ : api_Cell) = some [zC, zC, zC, zC, zC] := e
        simp only [if_pos h9, cond_true, e', Option.bind_some]
        exact ⟨⟨1, 5, [zC, zC, zC, zC, zC], 0, true, false⟩, true, .nil, 0, -1, rfl, rfl, rfl, S0_ok.with S0_ok.u.co (by omega) (by omega) _ _, fun _ => ⟨ha, rfl⟩⟩
      · simp only [if_neg h9, cond_false]
        exact ⟨⟨1, 5, [zC, zC, zC, zC, zC], 0, true, false⟩, true, .nil, 0, -1, rfl, rfl, rfl, S0_ok.with S0_ok.u.co (by omega) (by omega) _ _, fun _ => ⟨ha, rfl⟩⟩
  by_cases km : 2 ≤ kind ∧ kind ≤ 16
  · have h : kind = 2 ∨ kind = 3 ∨ kind = 4 ∨ kind = 5 ∨ kind = 6 ∨ kind = 7 ∨ kind = 8 ∨ kind = 9 ∨ kind = 10 ∨ kind = 11 ∨ kind = 12 ∨ kind = 13 ∨ kind = 14 ∨ kind = 15 ∨ kind = 16 := by omega
    refine okQ_ok (k := ⟨kind, ch⟩) ?_
    rcases h with h | h | h | h | h | h | h | h | h | h | h | h | h | h | h
    all_goals (rw [h]; kernel_rfl)
  have hm : move_Moves.m kind = some false := by
    unfold move_Moves.m
    by_cases h : kind ≥ 2
    · rw [if_pos h, decide_eq_false (by omega)]
    · rw [if_neg h]
  have hw : wipe_Wipes.m kind = some false := by
    unfold wipe_Wipes.m
    by_cases h : kind ≥ 12
    · rw [if_pos h, decide_eq_false (by omega)]
    · rw [if_neg h]
  have nm : ∀ {α : Type} (x y : α), (if kind ≥ 2 then (if kind ≤ 9 then x else y) else y) = y := fun x y => by
    by_cases h : kind ≥ 2
    · rw [if_pos h, if_neg (by omega)]
    · rw [if_neg h]
  have nw : ∀ {α : Type} (x y : α), (if kind ≥ 12 then (if kind ≤ 14 then x else y) else y) = y := fun x y => by
    by_cases h : kind ≥ 12
    · rw [if_pos h, if_neg (by omega)]
    · rw [if_neg h]
  have k10 : ¬ kind = 10 := by omega
  have k11 : ¬ kind = 11 := by omega
  have k15 : ¬ kind = 15 := by omega
  have k16 : ¬ kind = 16 := by omega
  unfold keys_Do.m shutterref17_Do.m keys_plain.m
  simp only [letJ, if_neg k1, if_neg k10, if_neg k11, if_neg k17, if_neg k15, if_neg k16, cond_false, hm, hw, nm, nw, Option.bind_some, rcopyU S0_ok.u]
  exact ⟨S0, false, .no 1, 1, -1, rfl, rfl, rfl, S0_ok, fun x => by cases x⟩
variable {s : api_Screen}
theorem resetQ (v : U5 s) : keys_Do.m KK s ⟨16, 0⟩ = some (⟨s.Rows, s.Cols, s.Cells, s.Cursor, false, false⟩, false, .nil) ∧ shutterref17_Do.m KK s ⟨16, 0⟩ = some (⟨s.Rows, s.Cols, s.Cells, s.Cursor, false, false⟩, false, 0, -1) := by
  unfold keys_Do.m shutterref17_Do.m keys_plain.m keys_set.m
  simp only [letJ, show ¬ ((16 : Int) = 17) from by decide, show ¬ ((16 : Int) = 15) from by decide, show ¬ ((16 : Int) = 1) from by decide, show ¬ ((16 : Int) = 10) from by decide, show ¬ ((16 : Int) = 11) from by decide, show ((16 : Int) ≥ 2) from by decide, show ¬ ((16 : Int) ≤ 9) from by decide, show ((16 : Int) ≥ 12) from by decide, show ¬ ((16 : Int) ≤ 14) from by decide,
    show move_Moves.m 16 = some false from rfl, show wipe_Wipes.m 16 = some false from rfl, if_true, if_false, cond_true, cond_false, copyU v.u, rcopyU v.u, Option.bind_some]
  exact ⟨by first | trivial | rfl, by first | trivial | rfl⟩
theorem enterQ (v : U5 s) (hL : s.Locked = false) : keys_Do.m KK s ⟨17, 125⟩ = some (⟨s.Rows, s.Cols, s.Cells, s.Cursor, true, false⟩, true, .nil) ∧ shutterref17_Do.m KK s ⟨17, 125⟩ = some (⟨s.Rows, s.Cols, s.Cells, s.Cursor, true, false⟩, true, 0, -1) := by
  unfold keys_Do.m shutterref17_Do.m keys_asks.m
  simp only [letJ, if_true, cond_true, cond_false, show ¬ ((17 : Int) = 16) from by decide, show ¬ ((17 : Int) = 15) from by decide, show ¬ ((17 : Int) = 1) from by decide, show ¬ ((17 : Int) = 10) from by decide, show ¬ ((17 : Int) = 11) from by decide, show ((17 : Int) ≥ 2) from by decide, show ¬ ((17 : Int) ≤ 9) from by decide, show ((17 : Int) ≥ 12) from by decide, show ¬ ((17 : Int) ≤ 14) from by decide,
    show ¬ ((125 : Int) = 109) from by decide, aid_eq, refaid_eq, show aidC 125 = true from rfl, if_false, copyU v.u, rcopyU v.u, Option.bind_some, hL]
  exact ⟨by first | trivial | rfl, by first | trivial | rfl⟩
end Go.Proofs.YtjkbhpokboolpaaGreatDoor.Sx

namespace Go.Proofs.YtjkbhpokboolpaaGreatDoor.Sx
open Go
set_option maxRecDepth 100000
set_option maxHeartbeats 4000000
variable {s : api_Screen}
theorem fmt_lU (u : US s) : ∀ (k : Nat) (i : Int), 0 ≤ i → i ≤ (s.Cells.length : Int) → (s.Cells.length : Int) - i < k → slices_IndexFunc_api_Cell__field_Formatted_1.l1.m KK s.Cells k i = some () := by
  have hl := u.len
  intro k
  induction k with
  | zero => intro i _ _ h; omega
  | succ k ih =>
    intro i i0 i1 hk
    rw [slices_IndexFunc_api_Cell__field_Formatted_1.l1.m]
    simp only [letJ]
    by_cases h3 : i < (s.Cells.length : Int)
    · unfold field_Formatted_1.m
      rw [if_pos h3, cond_true, if_pos i0, if_pos h3, (u.at i0 h3).1, Option.bind_some, cond_false, w64_id (n := i + 1) (by omega) (by omega)]
      exact ih (i + 1) (by omega) (by omega) (by omega)
    · rw [if_neg h3, cond_false]
theorem fmtU (u : US s) : field_Formatted.m KK s = some false := by
  have hl := u.len
  unfold field_Formatted.m slices_ContainsFunc_api_Cell__field_Formatted_1.m slices_IndexFunc_api_Cell__field_Formatted_1.m
  rw [fmt_lU u KK 0 (by omega) (by omega) (by unfold KK; omega)]
  rfl
theorem lettersU (u : US s) : read_letters.m KK s (ups s.Cells.length 0) = some (ltrS s (ups s.Cells.length 0)) := by
  refine lettersS_eq (by rw [ups_len]; exact u.len) fun x hx => ?_
  have h := ups_in _ _ x hx
  exact ⟨by omega, by omega, by unfold isC; rw [(u.at (by omega) (by omega)).1]; rfl⟩
theorem ltrS_ok (u : US s) : (ltrS s (ups s.Cells.length 0)).length ≤ s.Cells.length ∧ ∀ y ∈ ltrS s (ups s.Cells.length 0), Wf .u8 y ∧ ltr y = true := by
  refine ⟨by have := ltrS_len s (ups s.Cells.length 0); rw [ups_len] at this; exact this, fun y hy => ?_⟩
  unfold ltrS at hy
  obtain ⟨h1, h2⟩ := List.mem_filter.1 hy
  obtain ⟨i, hi, rfl⟩ := List.mem_map.1 h1
  have h := ups_in _ _ i hi
  have o := u.at (i := i) (by omega) (by omega)
  have hz : (at_ s.Cells i).Char ≠ 0 := by simpa using h2
  exact ⟨o.2.2.1, o.2.2.2.resolve_left hz⟩
def rep (s : api_Screen) (x : Int) : List Int := if bareC x then [x] else x :: (putOf s.Cursor 5 ++ ltrS s (ups 5 0))
theorem rep_ok (v : U5 s) {x : Int} (wx : Wf .u8 x) : (∀ y ∈ rep s x, Wf .u8 y) ∧ 1 ≤ (rep s x).length ∧ (rep s x).length ≤ 8 := by
  obtain ⟨tl, tw⟩ := ltrS_ok v.u
  rw [v.n] at tl tw
  have c0 := v.u.c0; have c1 := v.lt
  unfold rep
  by_cases hb : bareC x = true
  · rw [if_pos hb]
    exact ⟨fun y hy => by rw [List.mem_singleton.1 hy]; exact wx, by simp, by simp⟩
  · rw [if_neg hb]
    refine ⟨fun y hy => ?_, by simp, by simp only [List.length_cons, List.length_append, put_len]; omega⟩
    rcases List.mem_cons.1 hy with rfl | hy
    · exact wx
    · rcases List.mem_append.1 hy with hy | hy
      · exact put_u8 (by decide) c0 c1 y hy
      · exact (tw y hy).1
theorem replyX (v : U5 s) {x : Int} (wx : Wf .u8 x) (aid : aidC x = true) : read_Reply.m KK s 246 x = some (rep s x, .nil) := by
  have u := v.u
  have hl := u.len; have l0 := u.l0; have c0 := u.c0; have c1 := u.c1; have cQ' := v.lt; have n := v.n
  have ha : attr_Aid.m x = some true := by rw [aid_eq, aid]
  obtain ⟨tl, tw⟩ := ltrS_ok u
  have er : ups s.Cells.length 0 = ups 5 0 := by rw [n]
  generalize ht : ltrS s (ups s.Cells.length 0) = t at tl tw
  have ht5 : ltrS s (ups 5 0) = t := by rw [← er]; exact ht
  have tall : t.all ltr = true := List.all_eq_true.2 fun y hy => (tw y hy).2
  have fin : ∀ (o : api_In) (b : List Int), read_Modified.m KK s x = some (o, .nil) → writeI o 5 = (b, .nil) → o.Fields.length ≤ 100000 → (∀ f ∈ o.Fields, f.Text.length ≤ 100000) → (flatF o.Fields 5).length ≤ 800000 → read_Reply.m KK s 246 x = some (b, .nil) := by
    intro o b e1 e2 f1 f2 f3
    unfold read_Reply.m grid_Size.m
    simp only [if_true, e1, Option.bind_some, n, c5, write9_eq (o := o) (n := 5) (by decide) (by decide) f1 f2 f3, e2]
  cases hb : bareC x with
  | true =>
    refine fin ⟨x, 0, []⟩ _ ?_ ?_ (by simp) (by simp) (by simp [flatF])
    · unfold read_Modified.m
      rw [ha, Option.bind_some, cond_true, bare_eq, hb]
      rfl
    · unfold writeI errI rep
      simp [aid, hb]
  | false =>
    by_cases hz : t = []
    · refine fin ⟨x, s.Cursor, []⟩ _ ?_ ?_ (by simp) (by simp) (by simp [flatF])
      · unfold read_Modified.m
        rw [ha, Option.bind_some, cond_true, bare_eq, hb, Option.bind_some, cond_false, fmtU u, Option.bind_some, cond_false, cellsU u (by omega) (by omega), Option.bind_some, lettersU u, ht, hz]
        rfl
      · have e : errI ⟨x, s.Cursor, []⟩ 5 = .nil := by
          unfold errI
          simp only [aid, hb, if_true, Bool.false_eq_true, if_false]
          rw [if_neg (by omega)]; rfl
        unfold writeI rep
        rw [if_pos e, ht5, hz]
        simp only [hb, Bool.false_eq_true, if_false]
        rfl
    · have hw : wrongF ⟨-1, t⟩ true 5 = 0 := by
        unfold wrongF
        rw [tall]
        cases t with
        | nil => exact absurd rfl hz
        | cons y t => simp
      have hfl : flatF [(⟨-1, t⟩ : api_Entry)] 5 = t := by
        rw [flatF_cons]
        unfold putF flatF
        simp
      have tp : (t.length : Int) > 0 := by
        cases t with
        | nil => exact absurd rfl hz
        | cons y t => simp only [List.length_cons]; omega
      refine fin ⟨x, s.Cursor, [⟨-1, t⟩]⟩ _ ?_ ?_ (by simp) (fun f hf => by rw [List.mem_singleton.1 hf]; show t.length ≤ 100000; omega) (by rw [hfl]; omega)
      · unfold read_Modified.m
        rw [ha, Option.bind_some, cond_true, bare_eq, hb, Option.bind_some, cond_false, fmtU u, Option.bind_some, cond_false, cellsU u (by omega) (by omega), Option.bind_some, lettersU u, ht, Option.bind_some, if_pos tp]
      · have e : errI ⟨x, s.Cursor, [⟨-1, t⟩]⟩ 5 = .nil := by
          unfold errI
          simp only [aid, hb, if_true, Bool.false_eq_true, if_false]
          rw [if_neg (by omega)]
          simp only [List.length_singleton, beq_self_eq_true]
          unfold fW
          rw [if_neg (by rw [hw]; simp)]
          rfl
        unfold writeI rep
        rw [if_pos e, ht5]
        simp only [hb, Bool.false_eq_true, if_false, hfl]
        rw [if_neg (by omega)]
theorem rput_all : ((List.range 5).all fun a => decide (shutterref04_Put.m (a : Int) 5 = some (putOf (a : Int) 5))) = true := by kernel_rfl
theorem rput {a : Int} (h0 : 0 ≤ a) (h1 : a < 5) : shutterref04_Put.m a 5 = some (putOf a 5) := by
  have h := of_decide_eq_true (List.all_eq_true.1 rput_all a.toNat (List.mem_range.2 (by omega)))
  rw [Int.toNat_of_nonneg h0] at h
  exact h
theorem rfmt_l (u : US s) : ∀ (k : Nat) (i : Int), 0 ≤ i → i ≤ (s.Cells.length : Int) → (s.Cells.length : Int) - i < k → shutterref11_Formatted.l1.m KK s k i = some () := by
  have hl := u.len
  intro k
  induction k with
  | zero => intro i _ _ h; omega
  | succ k ih =>
    intro i i0 i1 hk
    rw [shutterref11_Formatted.l1.m]
    by_cases h3 : i < (s.Cells.length : Int)
    · rw [if_pos h3, if_pos i0, (u.at i0 h3).1, cond_false, w64_id (n := i + 1) (by omega) (by omega)]
      exact ih (i + 1) (by omega) (by omega) (by omega)
    · rw [if_neg h3]
theorem rltr_l (u : US s) : ∀ (m k : Nat) (i : Int) (acc : List Int), 0 ≤ i → i + m = (s.Cells.length : Int) → m < k → acc.length ≤ i → shutterref18_Modified.l1.m KK s k acc i = some (acc ++ ltrS s (ups m i)) := by
  have hl := u.len
  intro m
  induction m with
  | zero =>
    intro k i acc i0 hm hk ha
    obtain ⟨k, rfl⟩ : ∃ q, k = q + 1 := ⟨k - 1, by omega⟩
    rw [shutterref18_Modified.l1.m, if_neg (by omega), ups]
    simp [ltrS]
  | succ m ih =>
    intro k i acc i0 hm hk ha
    obtain ⟨k, rfl⟩ : ∃ q, k = q + 1 := ⟨k - 1, by omega⟩
    have h3 : i < (s.Cells.length : Int) := by omega
    have o := u.at i0 h3
    have hb := b_u8 o.2.2.1
    rw [shutterref18_Modified.l1.m]
    simp only [letJ]
    rw [if_pos h3, if_pos i0, letter_K hb.1 hb.2, Option.bind_some, ups, ltrS_cons, w64_id (n := i + 1) (by omega) (by omega), if_pos i0]
    by_cases hc : (at_ s.Cells i).Char = 0
    · rw [if_pos hc, hc, show ltr 0 = false from rfl, cond_false, cond_false]
      exact ih k (i + 1) acc (by omega) (by omega) (by omega) (by omega)
    · rw [if_neg hc, o.2.2.2.resolve_left hc, cond_true, cond_true, appk (by simp; omega), Option.bind_some, ih k (i + 1) _ (by omega) (by omega) (by omega) (by simp; omega)]
      simp
theorem rsays (v : U5 s) {x : Int} : ((shutterref18_Modified.m KK s x).bind fun t1 => shutterref09_Write.m KK t1 (s.Cells.length : Int)) = some (rep s x) := by
  have u := v.u
  have hl := u.len; have c0 := u.c0; have c1 := v.lt; have n := v.n
  have tl := ltrS_len s (ups 5 0)
  rw [ups_len] at tl
  have wl : ∀ (o : api_In) (acc : List Int) (q : Nat), o.Fields = [] → shutterref09_Write.l1.m KK o (q + 1) acc 0 = some acc := fun o acc q h => by
    rw [shutterref09_Write.l1.m, h, if_neg (by simp)]
  unfold shutterref18_Modified.m shutterref09_Write.m rep
  rw [refbare_eq]
  cases hb : bareC x with
  | true => simp [refbare_eq, hb]
  | false =>
    have e1 : shutterref11_Formatted.m KK s = some false := by
      unfold shutterref11_Formatted.m
      rw [rfmt_l u KK 0 (by omega) (by omega) (by unfold KK; omega)]; rfl
    have e2 : shutterref18_Modified.l1.m KK s KK [] 0 = some (ltrS s (ups 5 0)) := by
      have := rltr_l u 5 KK 0 [] (by omega) (by rw [n]; rfl) (by unfold KK; omega) (by simp)
      rw [List.nil_append] at this; exact this
    generalize ht : ltrS s (ups 5 0) = t at tl e2
    simp only [letJ, Option.bind_some, cond_false, e1, e2, Bool.false_eq_true, if_false]
    cases t with
    | nil =>
      simp only [List.length_nil, show ¬ (((0 : Nat) : Int) > 0) from by decide, if_false, cond_false, Option.bind_some, refbare_eq, hb, n, c5, rput c0 c1]
      rw [appk (by simp [put_len]), Option.bind_some, show KK = 1048575 + 1 from rfl, wl _ _ _ rfl]
      simp
    | cons y t =>
      have hp : ((y :: t).length : Int) > 0 := by simp only [List.length_cons]; omega
      simp only [if_pos hp, cond_true, Option.bind_some, n, c5]
      rw [appk (by simp), Option.bind_some]
      simp only [Option.bind_some, refbare_eq, hb, cond_false, rput c0 c1]
      rw [appk (by simp [put_len]), Option.bind_some, List.nil_append, show KK = 1048574 + 1 + 1 from rfl, shutterref09_Write.l1.m]
      simp only [List.length_singleton]
      rw [if_pos (by decide), if_pos (by decide)]
      simp only [show at_ [(⟨-1, y :: t⟩ : api_Entry)] 0 = ⟨-1, y :: t⟩ from rfl]
      rw [if_neg (by decide), appk (by simp only [List.length_cons, List.length_append, put_len, List.length_nil] at tl ⊢; omega), Option.bind_some, show w64 (0 + 1) = 1 from by decide, shutterref09_Write.l1.m, if_neg (by simp)]
      simp
end Go.Proofs.YtjkbhpokboolpaaGreatDoor.Sx

namespace Go.Proofs.YtjkbhpokboolpaaGreatDoor.Sx
open Go
set_option maxRecDepth 100000
set_option maxHeartbeats 4000000
def qs : Int → List (List Int) → List api_Pack
  | _, [] => []
  | n, m :: ms => ⟨0, n + 1, true, m⟩ :: qs (n + 1) ms
theorem qs_len : ∀ (M : List (List Int)) (n : Int), (qs n M).length = M.length
  | [], _ => rfl
  | _ :: M, n => by rw [qs, List.length_cons, qs_len M, List.length_cons]
theorem qs_app (m : List Int) : ∀ (M : List (List Int)) (n : Int), qs n (M ++ [m]) = qs n M ++ [⟨0, n + (M.length : Int) + 1, true, m⟩]
  | [], n => by simp [qs]
  | x :: M, n => by
    have e : n + 1 + (M.length : Int) + 1 = n + ((x :: M).length : Int) + 1 := by rw [List.length_cons]; omega
    rw [List.cons_append, qs, qs_app m M (n + 1), qs, e, List.cons_append]
def okM (m : List Int) : Prop := (∀ y ∈ m, Wf .u8 y) ∧ 1 ≤ m.length ∧ m.length ≤ 63
theorem qs_ok : ∀ (M : List (List Int)) (n : Int), 0 ≤ n → n + (M.length : Int) ≤ 100 → (∀ m ∈ M, okM m) → ∀ p ∈ qs n M, okP p ∧ p.Ack = 0 ∧ p.Last = true ∧ p.Data.length ≤ 63 ∧ p.Num ≤ n + (M.length : Int) ∧ n < p.Num
  | [], _, _, _, _, p, hp => by cases hp
  | m :: M, n, n0, n1, h, p, hp => by
    simp only [List.length_cons] at n1 ⊢
    rcases List.mem_cons.1 hp with rfl | hp
    · have o := h m (List.mem_cons_self ..)
      have o1 := o.2.1; have o2 := o.2.2
      exact ⟨⟨by show 1 ≤ n + 1; omega, by show n + 1 ≤ 1000; omega, o.1, .inr ⟨rfl, o1, by show m.length < 64; omega⟩⟩, rfl, rfl, o2, by show n + 1 ≤ _; omega, by show n < n + 1; omega⟩
    · have q := qs_ok M (n + 1) (by omega) (by omega) (fun x hx => h x (List.mem_cons_of_mem _ hx)) p hp
      exact ⟨q.1, q.2.1, q.2.2.1, q.2.2.2.1, by have := q.2.2.2.2.1; omega, by have := q.2.2.2.2.2; omega⟩
def lnQ (M : List (List Int)) (w f : Int) : line_Line := ⟨qs 0 M, (M.length : Int), 1, [], [], w, f, false⟩
theorem cutQ {m : List Int} (h : okM m) : piece_Cut.m KK m = some ([⟨0, 1, true, m⟩], .nil) := by
  obtain ⟨_, h1, h2⟩ := h
  have e : chX 64 m.length m.length 0 = [0] := by
    obtain ⟨k, hk⟩ : ∃ k, m.length = k + 1 := ⟨m.length - 1, by omega⟩
    have hn : ∀ j, chX 64 m.length j (0 + 64) = [] := fun j => by
      cases j with
      | zero => rfl
      | succ j => unfold chX; rw [if_neg (by omega)]
    generalize hL : m.length = L at *
    subst hk
    unfold chX
    rw [if_pos (by omega), hn]
  have e2 : sub m 0 (chE 64 m 0) = m := by
    have : chE 64 m 0 = (m.length : Int) := by unfold chE mn; split <;> omega
    rw [this]
    unfold sub; simp
  unfold piece_Cut.m slices_Chunk_bytes.m
  rw [if_neg (by omega), if_neg (by omega), if_pos ⟨by decide, by decide, by omega⟩, Option.bind_some, e, piece_Cut.l1.m, e2, clone_b (by omega), Option.bind_some, appk (by simp), Option.bind_some, piece_Cut.l1.m]
  rfl
theorem sendQ {M : List (List Int)} (hM : M.length ≤ 50) {m : List Int} (h : okM m) : line_Line_Send.m KK (lnQ M 1 0) m = some (.nil, lnQ (M ++ [m]) 1 0) := by
  have ql := qs_len M 0
  have go : line_Line_Send.l1.m KK ([⟨0, 1, true, m⟩], .nil) (1048574 + 1 + 1) 0 (qs 0 M) (M.length : Int) = some (qs 0 (M ++ [m]), ((M ++ [m]).length : Int)) := by
    rw [line_Line_Send.l1.m]
    simp only [letJ, List.length_singleton]
    rw [if_pos (by decide), cond_true, if_pos (by decide), if_pos (by decide), show at_ [(⟨0, 1, true, m⟩ : api_Pack)] 0 = ⟨0, 1, true, m⟩ from rfl, w64_id (n := (M.length : Int) + 1) (by omega) (by omega), appk (by simp only [List.length_singleton]; omega), Option.bind_some, show w64 (0 + 1) = 1 from by decide, line_Line_Send.l1.m]
    simp only [letJ, List.length_singleton]
    rw [if_neg (by decide), cond_false, qs_app]
    simp
  unfold line_Line_Send.m
  rw [cutQ h, Option.bind_some, if_pos rfl]
  unfold line_Line_room.m lnQ
  simp only [Option.bind_some, List.length_singleton, ql]
  rw [w64_id (n := 200 - (M.length : Int)) (by omega) (by omega), decide_eq_true (by omega), cond_true]
  unfold line_Line_now.m
  have go' : line_Line_Send.l1.m KK ([⟨0, 1, true, m⟩], .nil) KK 0 (qs 0 M) (M.length : Int) = some (qs 0 (M ++ [m]), ((M ++ [m]).length : Int)) := go
  simp only [letJ, Option.bind_some, go', ite_self]
def told (p : api_Pack) : api_Pack := ⟨0, p.Num, p.Last, p.Data⟩
theorem tick_l {l : line_Line} (d : List api_Pack) (hd : sub l.queue' 0 (mn 8 (l.queue'.length : Int)) = d) (hD : d.length ≤ 8) (hq : ∀ p ∈ d, okP p) : ∀ (k : Nat) (acc : List api_Pack) (i : Int) (g a w f : Int) (o : Bool), 0 ≤ i → i ≤ (d.length : Int) → (d.length : Int) - i < k → acc.length ≤ i → a = 1 →
    line_Line_Tick.l1.m KK l k acc i g a w f o = some (acc ++ (d.drop i.toNat).map told, g, a, w, f, o) := by
  intro k
  induction k with
  | zero => intro acc i g a w f o _ _ h; omega
  | succ k ih =>
    intro acc i g a w f o i0 i1 hk ha h1
    rw [line_Line_Tick.l1.m]
    simp only [letJ, hd]
    by_cases h3 : i < (d.length : Int)
    · have hp := hq _ (at_in i0 h3)
      have hdl : (at_ d i).Data.length ≤ 100000 := by have := hp.2.2.2; omega
      unfold line_Line_told.m
      rw [if_pos h3, cond_true, if_pos i0, if_pos h3, clone_b hdl]
      simp only [Option.bind_some]
      rw [appk (by simp; omega), Option.bind_some, w64_id (n := i + 1) (by omega) (by omega), ih _ (i + 1) g a w f o (by omega) (by omega) (by omega) (by simp; omega) h1, at_cons i0 h3, h1]
      simp only [List.map_cons, List.append_assoc, List.singleton_append]
      rfl
    · rw [if_neg h3, cond_false, List.drop_eq_nil_of_le (by omega)]
      simp
theorem told_eq {p : api_Pack} (h : p.Ack = 0) : told p = p := by unfold told; rw [← h]
theorem tickQ {M : List (List Int)} (h0 : 1 ≤ M.length) (h2 : M.length ≤ 2) (h : ∀ m ∈ M, okM m) : line_Line_Tick.m KK (lnQ M 1 0) = some (qs 0 M, lnQ M 2 1) := by
  have ql := qs_len M 0
  have ok := qs_ok M 0 (by omega) (by omega) h
  have hmn : mn 8 ((qs 0 M).length : Int) = ((qs 0 M).length : Int) := by unfold mn; split <;> omega
  have hs : sub (qs 0 M) 0 ((qs 0 M).length : Int) = qs 0 M := by unfold sub; simp
  have hmap : (qs 0 M).map told = qs 0 M := by
    have : ∀ l : List api_Pack, (∀ p ∈ l, p.Ack = 0) → l.map told = l := fun l => by
      induction l with
      | nil => intro _; rfl
      | cons p l ih =>
        intro hl
        rw [List.map_cons, told_eq (hl p (List.mem_cons_self ..)), ih fun q hq => hl q (List.mem_cons_of_mem _ hq)]
    exact this _ fun p hp => (ok p hp).2.1
  have el := tick_l (l := lnQ M 1 0) (qs 0 M) (by show sub (qs 0 M) 0 (mn 8 ((qs 0 M).length : Int)) = qs 0 M; rw [hmn, hs]) (by omega) (fun p hp => (ok p hp).1) KK [] 0 (M.length : Int) 1 1 0 false (by omega) (by omega) (by unfold KK; omega) (by simp) rfl
  have hx : mx 0 (w64 (0 - 1)) = 0 := by decide
  rw [Int.toNat_zero, List.drop_zero, List.nil_append, hmap] at el
  unfold line_Line_Tick.m
  have e1 : (lnQ M 1 0).queue' = qs 0 M := rfl
  have e2 : (lnQ M 1 0).left' = 0 := rfl
  have e3 : (lnQ M 1 0).given' = (M.length : Int) := rfl
  have e4 : (lnQ M 1 0).await' = 1 := rfl
  have e5 : (lnQ M 1 0).wait' = 1 := rfl
  have e6 : (lnQ M 1 0).owes' = false := rfl
  have e7 : (lnQ M 1 0).kept' = [] := rfl
  have e8 : (lnQ M 1 0).coming' = [] := rfl
  simp only [letJ, e1, e2, e3, e4, e5, e6, e7, e8, hx, hmn, el, Option.bind_some, if_true]
  rw [if_pos (by omega), if_pos (by omega), if_pos (by omega), if_neg (by omega)]
  rfl
def nb (m : Int) : List Int := [0, 0, m / 256 % 256, m % 256]
theorem number_eq {m : Int} (h0 : 0 ≤ m) (h1 : m ≤ 1000) : piece_number.m m = some (nb m) := by
  obtain ⟨n, rfl⟩ : ∃ n : Nat, m = n := ⟨m.toNat, by omega⟩
  have e24 : shr .i64 (n : Int) 24 = 0 := by
    have := shr64_nat (x := n) (n := 24) (by omega)
    rw [show ((24 : Nat) : Int) = 24 from rfl] at this
    rw [this, Nat.div_eq_of_lt (by omega)]; rfl
  have e16 : shr .i64 (n : Int) 16 = 0 := by
    have := shr64_nat (x := n) (n := 16) (by omega)
    rw [show ((16 : Nat) : Int) = 16 from rfl] at this
    rw [this, Nat.div_eq_of_lt (by omega)]; rfl
  have e8 : shr .i64 (n : Int) 8 = (n : Int) / 256 := by
    have := shr64_nat (x := n) (n := 8) (by omega)
    rw [show ((8 : Nat) : Int) = 8 from rfl] at this
    rw [this]; omega
  unfold piece_number.m nb
  rw [e24, e16, e8, wrap_u8, wrap_u8, wrap_u8]
  rfl
def bodyOf (p : api_Pack) : List Int := nb 0 ++ (nb p.Num ++ ((if p.Last = true then 1 else 0) :: p.Data))
theorem concat_eq {a b c d : List Int} (h : a.length + b.length + c.length + d.length ≤ 1000) (h0 : 1 ≤ a.length) : slices_Concat_bytes.m KK [a, b, c, d] = some (a ++ (b ++ (c ++ d))) := by
  have l4 : (([a, b, c, d] : List (List Int)).length : Int) = 4 := rfl
  have f1 : ∀ k, slices_Concat_bytes.l1.m KK [a, b, c, d] (k + 1 + 1 + 1 + 1 + 1) 0 0 = some ((a.length : Int) + b.length + c.length + d.length) := by
    intro k
    simp only [slices_Concat_bytes.l1.m, letJ, l4, show at_ [a, b, c, d] 0 = a from rfl, show w64 (0 + 1) = 1 from by decide, show w64 (1 + 1) = 2 from by decide, show w64 (2 + 1) = 3 from by decide, show w64 (3 + 1) = 4 from by decide,
      show at_ [a, b, c, d] 1 = b from rfl, show at_ [a, b, c, d] 2 = c from rfl, show at_ [a, b, c, d] 3 = d from rfl, Int.zero_add, show w64 1 = 1 from by decide]
    rw [w64_id (n := (a.length : Int)) (by omega) (by omega), w64_id (n := (a.length : Int) + b.length) (by omega) (by omega), w64_id (n := (a.length : Int) + b.length + c.length) (by omega) (by omega), w64_id (n := (a.length : Int) + b.length + c.length + d.length) (by omega) (by omega)]
    simp only [show (0 : Int) < 4 ↔ True from by decide, show (1 : Int) < 4 ↔ True from by decide, show (2 : Int) < 4 ↔ True from by decide, show (3 : Int) < 4 ↔ True from by decide, show (4 : Int) < 4 ↔ False from by decide, if_true, if_false, cond_true, cond_false,
      show (0 : Int) ≤ 0 ↔ True from by decide, show (0 : Int) ≤ 1 ↔ True from by decide, show (0 : Int) ≤ 2 ↔ True from by decide, show (0 : Int) ≤ 3 ↔ True from by decide]
    rw [if_neg (by omega), if_neg (by omega), if_neg (by omega), if_neg (by omega)]
  have e1 : slices_Concat_bytes.l1.m KK [a, b, c, d] KK 0 0 = _ := f1 1048571
  have f2 : ∀ k, slices_Concat_bytes.l2.m KK [a, b, c, d] (k + 1 + 1 + 1 + 1 + 1) [] 0 = some (a ++ (b ++ (c ++ d))) := by
    intro k
    simp only [slices_Concat_bytes.l2.m, l4, show at_ [a, b, c, d] 0 = a from rfl, show w64 (0 + 1) = 1 from by decide, show w64 (1 + 1) = 2 from by decide, show w64 (2 + 1) = 3 from by decide, show w64 (3 + 1) = 4 from by decide,
      show at_ [a, b, c, d] 1 = b from rfl, show at_ [a, b, c, d] 2 = c from rfl, show at_ [a, b, c, d] 3 = d from rfl,
      show (0 : Int) < 4 ↔ True from by decide, show (1 : Int) < 4 ↔ True from by decide, show (2 : Int) < 4 ↔ True from by decide, show (3 : Int) < 4 ↔ True from by decide, show (4 : Int) < 4 ↔ False from by decide, if_true, if_false,
      show (0 : Int) ≤ 0 ↔ True from by decide, show (0 : Int) ≤ 1 ↔ True from by decide, show (0 : Int) ≤ 2 ↔ True from by decide, show (0 : Int) ≤ 3 ↔ True from by decide]
    rw [appk (by simp; omega), Option.bind_some, appk (by simp; omega), Option.bind_some, appk (by simp; omega), Option.bind_some, appk (by simp; omega), Option.bind_some]
    simp
  have e2 : slices_Concat_bytes.l2.m KK [a, b, c, d] KK [] 0 = _ := f2 1048571
  unfold slices_Concat_bytes.m slices_Grow_bytes.m gz
  rw [e1, Option.bind_some, if_neg (by omega), show w64 (0 - 0) = 0 from by decide, Int.sub_zero, w64_id (by omega) (by omega), if_pos (by omega), if_pos ⟨by omega, by omega⟩, Option.bind_some, if_pos (by omega)]
  rw [Option.bind_some, show sub (List.replicate ((a.length : Int) + b.length + c.length + d.length).toNat (0 : Int)) 0 0 = [] from by unfold sub; simp, e2]
  rfl
theorem bodyOf_ok {p : api_Pack} (h : okP p) : (∀ y ∈ bodyOf p, Wf .u8 y) ∧ (bodyOf p).length = 9 + p.Data.length ∧ p.Data.length ≤ 64 := by
  have h1 := h.1; have h2 := h.2.1
  refine ⟨fun y hy => ?_, ?_, by have := h.2.2.2; omega⟩
  · unfold bodyOf nb at hy
    simp only [List.mem_append, List.mem_cons, List.not_mem_nil, or_false] at hy
    rcases hy with (rfl | rfl | rfl | rfl) | (rfl | rfl | rfl | rfl) | rfl | hy
    all_goals first
      | exact h.2.2.1 y hy
      | exact wf8i (by omega) (by omega)
      | (split <;> exact wf8i (by decide) (by decide))
  · unfold bodyOf nb; simp; omega
theorem pwriteQ {p : api_Pack} (h : okP p) (ha : p.Ack = 0) (hL : p.Last = true) (h63 : p.Data.length ≤ 63) : piece_Write.m KK p = some (bodyOf p, .nil) := by
  have h1 := h.1; have h2 := h.2.1
  have hd : 1 ≤ p.Data.length := by have := h.2.2.2; omega
  have may : piece_may.m p = some true := by
    unfold piece_may.m
    rw [ha, if_neg (by decide), if_neg (by decide), if_neg (by omega), if_neg (by omega), if_neg (by omega), if_neg (by omega), hL, cond_true, if_pos (by omega), decide_eq_true (by omega)]
  unfold piece_Write.m
  rw [may, Option.bind_some, cond_true, hL, cond_true]
  simp only [ha, number_eq (m := 0) (by omega) (by omega), number_eq (m := p.Num) (by omega) h2, Option.bind_some]
  unfold bodyOf
  rw [concat_eq (by simp [nb]; omega) (by simp [nb]), hL]
  rfl
theorem preadQ {n : Int} (hn : n = 1 ∨ n = 2) {d : List Int} (h : okM d) : piece_Read.m (bodyOf ⟨0, n, true, d⟩) = some (⟨0, n, true, d⟩, .nil) := by
  obtain ⟨_, h1, h2⟩ := h
  have L9 : ((bodyOf ⟨0, n, true, d⟩).length : Int) = 9 + d.length := by unfold bodyOf nb; simp; omega
  have a8 : at_ (bodyOf ⟨0, n, true, d⟩) 8 = 1 := rfl
  have e9 : sub (bodyOf ⟨0, n, true, d⟩) 9 ((bodyOf ⟨0, n, true, d⟩).length : Int) = d := by rw [sub_end]; rfl
  have e4 : sub (bodyOf ⟨0, n, true, d⟩) 4 ((bodyOf ⟨0, n, true, d⟩).length : Int) = nb n ++ (1 :: d) := by rw [sub_end]; rfl
  have l4 : ((nb n ++ (1 :: d)).length : Int) = 5 + d.length := by unfold nb; simp; omega
  have f0 : piece_four.m (bodyOf ⟨0, n, true, d⟩) = some 0 := by
    unfold piece_four.m
    rw [if_pos (by omega), if_pos (by omega), if_pos (by omega), if_pos (by omega)]
    have b0 : at_ (bodyOf ⟨0, n, true, d⟩) 0 = 0 := rfl
    have b1 : at_ (bodyOf ⟨0, n, true, d⟩) 1 = 0 := rfl
    have b2 : at_ (bodyOf ⟨0, n, true, d⟩) 2 = 0 := rfl
    have b3 : at_ (bodyOf ⟨0, n, true, d⟩) 3 = 0 := rfl
    rw [b0, b1, b2, b3]
    rfl
  have f1 : piece_four.m (nb n ++ (1 :: d)) = some n := by
    unfold piece_four.m
    rw [if_pos (by omega), if_pos (by omega), if_pos (by omega), if_pos (by omega)]
    have b0 : at_ (nb n ++ (1 :: d)) 0 = 0 := rfl
    have b1 : at_ (nb n ++ (1 :: d)) 1 = 0 := rfl
    have b2 : at_ (nb n ++ (1 :: d)) 2 = n / 256 % 256 := rfl
    have b3 : at_ (nb n ++ (1 :: d)) 3 = n % 256 := rfl
    rw [b0, b1, b2, b3]
    rcases hn with rfl | rfl <;> rfl
  have may : piece_may.m ⟨0, n, true, d⟩ = some true := by
    unfold piece_may.m
    simp only
    rw [if_neg (by decide), if_neg (by decide), if_neg (by omega), if_neg (by omega), if_neg (by omega), if_neg (by omega), cond_true, if_pos (by omega), decide_eq_true (by omega)]
  unfold piece_Read.m
  rw [if_neg (by omega), if_pos (by omega), a8, if_neg (by decide)]
  simp only [letJ]
  rw [if_pos (by omega), if_pos (by omega), f0, Option.bind_some, e4, f1, Option.bind_some, e9, clone_b (by omega), Option.bind_some]
  simp only [show ((1 : Int) == 1) = true from rfl, may, Option.bind_some, cond_true]
def outs (key : List Int) (d : Int) : Int → List api_Pack → List (List Int)
  | _, [] => []
  | n, p :: ps => sealT key ⟨d, n + 1, bodyOf p⟩ :: outs key d (n + 1) ps
theorem outs_len (key : List Int) (d : Int) : ∀ (ps : List api_Pack) (n : Int), (outs key d n ps).length = ps.length
  | [], _ => rfl
  | p :: ps, n => by rw [outs, List.length_cons, outs_len key d ps, List.length_cons]
theorem packs_l {key : List Int} (hk : key.length ≤ 100) (wk : ∀ y ∈ key, Wf .u8 y) {d : Int} (hd : d = 0 ∨ d = 1) {sd : side_side} (k1 : sd.key' = key) (k2 : sd.dir' = d) {t : List api_Pack × line_Line} (ht : ∀ p ∈ t.1, (okP p ∧ p.Last = true ∧ p.Data.length ≤ 63) ∧ p.Ack = 0) (h8 : t.1.length ≤ 8) :
    ∀ (k : Nat) (acc : List (List Int)) (i n : Int), 0 ≤ i → i ≤ (t.1.length : Int) → (t.1.length : Int) - i < k → acc.length ≤ i → 0 ≤ n → n ≤ 100000 + i →
    side_side_packs.l1.m KK sd t k acc i n = some (acc ++ outs key d n (t.1.drop i.toNat), n + ((t.1.length : Int) - i)) := by
  intro k
  induction k with
  | zero => intro acc i n _ _ h; omega
  | succ k ih =>
    intro acc i n i0 i1 hk' ha n0 n1
    rw [side_side_packs.l1.m]
    simp only [letJ]
    by_cases h3 : i < (t.1.length : Int)
    · obtain ⟨hp, hak⟩ := ht _ (at_in i0 h3)
      obtain ⟨wb, lb, db⟩ := bodyOf_ok hp.1
      have hw : w64 (n + 1) = n + 1 := w64_id (by omega) (by omega)
      have okf : okF ⟨d, n + 1, bodyOf (at_ t.1 i)⟩ := ⟨hd, by show 1 ≤ n + 1; omega, by show n + 1 ≤ 4611686018427387904; omega⟩
      have se : frame_Seal.m KK sd.key' ⟨sd.dir', n + 1, bodyOf (at_ t.1 i)⟩ = some (sealT key ⟨d, n + 1, bodyOf (at_ t.1 i)⟩, .nil) := by
        rw [k1, k2, seal_eq (by omega) wk wb]
        unfold sealF
        rw [if_pos okf, if_neg (by show ¬ (bodyOf (at_ t.1 i)).length > 486; omega)]
      rw [if_pos h3, cond_true, if_pos i0, if_pos h3, pwriteQ hp.1 hak hp.2.1 hp.2.2, Option.bind_some, if_pos rfl, hw, se, Option.bind_some, if_pos rfl, appk (by simp; omega), Option.bind_some, w64_id (n := i + 1) (by omega) (by omega),
        ih _ (i + 1) (n + 1) (by omega) (by omega) (by omega) (by simp; omega) (by omega) (by omega), at_cons i0 h3, outs]
      simp only [List.append_assoc, List.singleton_append]
      congr 2
      omega
    · rw [if_neg h3, cond_false, List.drop_eq_nil_of_le (by omega), outs, List.append_nil]
      congr 2
      omega
theorem drop_cons {α : Type} [Inhabited α] {l : List α} {i : Int} {x : α} {r : List α} (h0 : 0 ≤ i) (h : l.drop i.toNat = x :: r) : i < (l.length : Int) ∧ at_ l i = x ∧ l.drop (i + 1).toNat = r := by
  have h1 : i < (l.length : Int) := by
    have := congrArg List.length h
    rw [List.length_drop, List.length_cons] at this
    omega
  have h2 := at_cons h0 h1
  rw [h] at h2
  obtain ⟨a, b⟩ := List.cons.inj h2
  exact ⟨h1, a.symm, b.symm⟩
structure HQ (key : List Int) (m : Int) (h : side_Host) : Prop where
  k : h.side'.gate'.Key = key
  d : h.side'.gate'.Dir = 0
  t : h.side'.gate'.Seen.Top = m
  s : h.side'.gate'.Peer.Seq = m
  q : h.side'.line'.queue' = []
  g : h.side'.line'.given' = 0
  a : h.side'.line'.await' = m + 1
  e : h.side'.line'.kept' = []
  c : h.side'.line'.coming' = []
  got : (h.got'.length : Int) ≤ m
theorem lhearQ {l : line_Line} {n : Int} (hn : n = 1 ∨ n = 2) {d : List Int} (h : okM d) (q : l.queue' = []) (g : l.given' = 0) (a : l.await' = n) (e : l.kept' = []) (c : l.coming' = []) :
    ∃ l', line_Line_Hear.m KK l ⟨0, n, true, d⟩ = some ([d], .nil, l') ∧ l'.queue' = [] ∧ l'.given' = 0 ∧ l'.await' = n + 1 ∧ l'.kept' = [] ∧ l'.coming' = [] := by
  have h1 := h.2.1; have h2 := h.2.2
  have okp : okP ⟨0, n, true, d⟩ := ⟨by show 1 ≤ n; omega, by show n ≤ 1000; omega, h.1, .inr ⟨rfl, h1, by show d.length < 64; omega⟩⟩
  have ea : line_Line_acked.m KK l 0 = some l := by
    unfold line_Line_acked.m slices_IndexFunc_api_Pack__line_Line_acked_1.m
    have : slices_IndexFunc_api_Pack__line_Line_acked_1.l1.m KK l.queue' (1048575 + 1) 0 = some () := by
      rw [slices_IndexFunc_api_Pack__line_Line_acked_1.l1.m, q, if_neg (by simp)]
    rw [show slices_IndexFunc_api_Pack__line_Line_acked_1.l1.m KK l.queue' KK 0 = some () from this]
    simp only [Option.bind_some]
    rw [if_pos (by decide), q, if_neg (by simp)]
  have hw : w64 (n + 1) = n + 1 := w64_id (by omega) (by omega)
  have dr : ∀ (x : line_Line), line_Line_drain.l1.m KK x (1048574 + 1 + 1) [] n [(n, ⟨0, n, true, d⟩)] [] = some ([d], .nil, ⟨x.queue', x.given', n + 1, [], [], x.wait', x.left', x.owes'⟩) := fun x => by
    rw [line_Line_drain.l1.m]
    simp only [letJ, mget, if_true, mcase, cond_true, List.length_nil]
    rw [w64_id (by omega) (by omega), if_neg (by omega), appk (by simp; omega), Option.bind_some]
    rw [appk (by simp), Option.bind_some, hw, line_Line_drain.l1.m]
    simp only [letJ, mdel, mget, if_true, mcase, cond_false]
    rfl
  unfold line_Line_Hear.m
  rw [pwriteQ okp rfl rfl (by show d.length ≤ 63; omega), Option.bind_some, if_pos rfl]
  simp only
  rw [g, if_neg (by decide), ea, Option.bind_some, if_neg (by omega)]
  simp only [letJ, e, mget, mcase, a]
  rw [if_pos (by omega), w64_id (n := n + 8) (by omega) (by omega), if_pos (by omega), clone_b (by omega), Option.bind_some]
  unfold line_Line_drain.m
  simp only [mput, c]
  rw [show KK = 1048574 + 1 + 1 from rfl] at dr ⊢
  rw [dr]
  exact ⟨_, rfl, q, g, rfl, rfl, rfl⟩
theorem hearQ {key : List Int} (hk : key.length ≤ 100) (wk : ∀ y ∈ key, Wf .u8 y) {m : Int} (hm : m = 0 ∨ m = 1) {h : side_Host} (H : HQ key m h) {d : List Int} (ok : okM d) :
    shutterref19_Open.m KK key 0 (sealT key ⟨0, m + 1, bodyOf ⟨0, m + 1, true, d⟩⟩) = some (⟨0, m + 1, bodyOf ⟨0, m + 1, true, d⟩⟩, 0) ∧
    ∃ q, side_Host_Hear.m KK h ⟨#[97]⟩ (sealT key ⟨0, m + 1, bodyOf ⟨0, m + 1, true, d⟩⟩) = some (.nil, q) ∧ HQ key (m + 1) ⟨⟨h.side'.key', q.side'.gate', q.side'.line', q.side'.dir', q.side'.seq'⟩, q.got'⟩ := by
  have h1 := ok.2.1; have h2 := ok.2.2
  have okp : okP ⟨0, m + 1, true, d⟩ := ⟨by show 1 ≤ m + 1; omega, by show m + 1 ≤ 1000; omega, ok.1, .inr ⟨rfl, h1, by show d.length < 64; omega⟩⟩
  obtain ⟨wb, lb, _⟩ := bodyOf_ok okp
  have lb' : (bodyOf ⟨0, m + 1, true, d⟩).length = 9 + d.length := lb
  have okf : okF ⟨0, m + 1, bodyOf ⟨0, m + 1, true, d⟩⟩ := ⟨.inl rfl, by show 1 ≤ m + 1; omega, by show m + 1 ≤ 4611686018427387904; omega⟩
  have ws := (sealT_ok (k := key) (f := ⟨0, m + 1, bodyOf ⟨0, m + 1, true, d⟩⟩) wk wb).2
  have os := (open_seal (f := ⟨0, m + 1, bodyOf ⟨0, m + 1, true, d⟩⟩) wk wb okf (by show (bodyOf ⟨0, m + 1, true, d⟩).length ≤ 486; omega)).1
  refine ⟨by rw [openref_eq (by omega) wk ws, os]; rfl, ?_⟩
  obtain ⟨l', el, q1, q2, q3, q4, q5⟩ := lhearQ (l := h.side'.line') (n := m + 1) (by omega) ok H.q H.g H.a H.e H.c
  have eo : frame_Open.m KK h.side'.gate'.Key h.side'.gate'.Dir (sealT key ⟨0, m + 1, bodyOf ⟨0, m + 1, true, d⟩⟩) = some (⟨0, m + 1, bodyOf ⟨0, m + 1, true, d⟩⟩, .nil) := by
    rw [H.k, H.d, open_eq (by omega) wk ws]; exact congrArg some os
  have hg := H.got
  unfold side_Host_Hear.m side_side_take.m roam_Gate_Come.m window_Let.m
  rw [eo]
  simp only [Option.bind_some, if_true]
  rw [if_neg (by omega), if_neg (by omega), H.t, if_pos (by omega), w64_id (by omega) (by omega), if_pos (by omega)]
  simp only [Option.bind_some, if_true]
  rw [H.s, if_pos (by omega)]
  simp only [Option.bind_some, if_true]
  rw [preadQ (by omega) ok]
  simp only [Option.bind_some, if_true, el]
  rw [appk (by simp; omega), Option.bind_some]
  exact ⟨_, rfl, ⟨H.k, H.d, rfl, rfl, q1, q2, q3, q4, q5, by simp; omega⟩⟩
end Go.Proofs.YtjkbhpokboolpaaGreatDoor.Sx

namespace Go.Proofs.YtjkbhpokboolpaaGreatDoor.Sx
open Go
set_option maxRecDepth 100000
set_option maxHeartbeats 4000000
theorem bindQ {α β : Type} {m : Option α} {f : α → Option β} {x : α} {r : β} (h : m = some x) (hf : f x = some r) : m.bind f = some r := by rw [h]; exact hf
structure CQ (key : List Int) (M : List (List Int)) (evs : List api_Event) (c : side_Client) : Prop where
  u : U5 c.s'
  ln : c.side'.line' = lnQ M 1 0
  sent : c.sent' = M
  ok : ∀ m ∈ M, okM m
  td : c.todo' = []
  ev : c.events' = evs
  k : c.side'.key' = key
  d : c.side'.dir' = 0
  sq : c.side'.seq' = 0
def comp (c d : side_Client) : side_Client := ⟨⟨c.side'.key', ⟨c.side'.gate'.Key, d.side'.gate'.Dir, d.side'.gate'.Seen, d.side'.gate'.Peer⟩, d.side'.line', d.side'.dir', d.side'.seq'⟩, d.s', c.todo', d.sent', d.events'⟩
theorem sendS {key : List Int} {M : List (List Int)} {evs : List api_Event} {c : side_Client} (C : CQ key M evs c) (hM : M.length ≤ 10) {b : List Int} (wb : ∀ y ∈ b, Wf .u8 y) (hb : b.length ≤ 40) :
    side_Client_send.m KK c 0 b = some (true, ⟨⟨c.side'.key', c.side'.gate', lnQ (M ++ [0 :: b]) 1 0, c.side'.dir', c.side'.seq'⟩, c.s', c.todo', M ++ [0 :: b], c.events'⟩) := by
  obtain ⟨⟨k', g', l', d', s'⟩, sc, td, sn, ev⟩ := c
  obtain rfl : l' = lnQ M 1 0 := C.ln
  obtain rfl : sn = M := C.sent
  have ql := qs_len sn 0
  have om : okM (0 :: b) := ⟨fun y hy => by
    rcases List.mem_cons.1 hy with rfl | hy
    · exact w8_0
    · exact wb y hy, by simp, by simp; omega⟩
  have es := sendQ (M := sn) (by omega) om
  have hb1 : (((0 : Int) :: b).length : Int) = (b.length : Int) + 1 := by simp
  have hr : line_Line_Room.m (lnQ sn 1 0) (((0 : Int) :: b).length : Int) = some (true, lnQ sn 1 0) := by
    unfold line_Line_Room.m line_Line_room.m lnQ
    simp only [hb1, ql]
    rw [if_pos (by omega), if_pos (by omega), w64_id (n := (b.length : Int) + 1 + 64) (by omega) (by omega), w64_id (n := (b.length : Int) + 1 + 64 - 1) (by omega) (by omega), Int.tdiv_eq_ediv_of_nonneg (by omega), w64_id (n := ((b.length : Int) + 1 + 64 - 1) / 64) (by omega) (by omega), w64_id (by omega) (by omega),
      decide_eq_true (by omega)]
    rfl
  unfold side_Client_send.m
  rw [appk (by simp; omega), Option.bind_some, List.singleton_append]
  refine bindQ hr ?_
  simp only [cond_true]
  refine bindQ (x := (.nil, lnQ (sn ++ [0 :: b]) 1 0)) es ?_
  simp only [if_true]
  rw [appk (by simp; omega), Option.bind_some]
  rfl
theorem keyS {key : List Int} {M : List (List Int)} {evs : List api_Event} {c : side_Client} (C : CQ key M evs c) (hM : M.length ≤ 10) (hE : evs.length ≤ 10) {k : api_Key} (wc : Wf .u8 k.Char) {t : api_Screen} {a : Bool} {e : GoErr} {w i : Int}
    (e1 : keys_Do.m KK c.s' k = some (t, a, e)) (e2 : shutterref17_Do.m KK c.s' k = some (t, a, w, i)) (hc : codeOf e = w) (ht : U5 t) (hA : a = true → aidC k.Char = true ∧ e = .nil) :
    ∃ q, side_Client_Key.m KK c k = some q ∧ CQ key (if a = true then M ++ [0 :: rep c.s' k.Char] else M) (evs ++ [⟨false, k, codeOf e, []⟩]) (comp c q.2.2) ∧ q.2.2.s' = t ∧
      shutterref25_Key.m KK ⟨c.s', M⟩ k (codeOf e) = some (⟨t, if a = true then M ++ [0 :: rep c.s' k.Char] else M⟩, true) := by
  unfold side_Client_Key.m side_Client_press.m api_Code.m shutterref25_Key.m
  simp only [e1, e2, letJ, Option.bind_some]
  cases a with
  | false =>
    simp only [cond_false, cond_true, Option.bind_some, C.ev]
    rw [appk (by simp; omega), Option.bind_some]
    refine ⟨_, rfl, ⟨ht, C.ln, C.sent, C.ok, C.td, rfl, C.k, C.d, C.sq⟩, rfl, ?_⟩
    rw [show (codeOf e == w) = true by rw [hc]; exact beq_self_eq_true w]
    rfl
  | true =>
    obtain ⟨ha, rfl⟩ := hA rfl
    obtain ⟨wb, b1, b2⟩ := rep_ok C.u wc
    have es := sendS C hM wb (show (rep c.s' k.Char).length ≤ 40 by omega)
    have hr := rsays C.u (x := k.Char)
    have om : okM (0 :: rep c.s' k.Char) := ⟨fun y hy => by
      rcases List.mem_cons.1 hy with rfl | hy
      · exact w8_0
      · exact wb y hy, by simp, by simp; omega⟩
    simp only [cond_true, cond_false]
    unfold side_Client_ask.m
    rw [replyX C.u wc ha]
    simp only [Option.bind_some, if_true, es, cond_true, C.ev]
    rw [appk (by simp; omega), Option.bind_some]
    refine ⟨_, rfl, ⟨ht, rfl, rfl, fun m hm => ?_, C.td, rfl, C.k, C.d, C.sq⟩, rfl, ?_⟩
    · rcases List.mem_append.1 hm with hm | hm
      · exact C.ok m hm
      · rw [List.mem_singleton.1 hm]; exact om
    · show (if codeOf .nil = 10 then none else _) = _
      rw [if_neg (by decide)]
      obtain ⟨o, eo, ew⟩ := Option.bind_eq_some_iff.1 hr
      rw [eo, Option.bind_some, ew, Option.bind_some]
      unfold shutterref25_send.m
      rw [appk (by simp; omega), Option.bind_some, appk (by simp; omega), Option.bind_some, appk (by simp; omega)]
      rfl
theorem right_l {s : api_Screen} (u : US s) : ∀ (k : Nat) (i : Int), 0 ≤ i → i ≤ (s.Cells.length : Int) → (s.Cells.length : Int) - i < k → shutterref10_Right.l1.m KK s k i = some () := by
  have hl := u.len
  intro k
  induction k with
  | zero => intro i _ _ h; omega
  | succ k ih =>
    intro i i0 i1 hk
    rw [shutterref10_Right.l1.m]
    by_cases h3 : i < (s.Cells.length : Int)
    · have o := u.at i0 h3
      have ec : shutterref10_Cell.m (⟨(at_ s.Cells i).Field, (at_ s.Cells i).Attr, (at_ s.Cells i).Char⟩ : api_Cell) = some true := by
        unfold shutterref10_Cell.m
        simp only [o.1, o.2.1, cond_false]
        have b8 := b_u8 o.2.2.1
        have : shutterref05_Char.m (at_ s.Cells i).Char = some true := by
          unfold shutterref05_Char.m
          by_cases e0 : (at_ s.Cells i).Char = 0
          · rw [if_pos e0]
          · have hl' := o.2.2.2.resolve_left e0
            rw [if_neg e0]
            by_cases e1 : (at_ s.Cells i).Char = 28
            · rw [if_pos e1]
            · rw [if_neg e1]
              by_cases e2 : (at_ s.Cells i).Char = 30
              · rw [if_pos e2]
              · rw [if_neg e2]
                unfold ltr chr at hl'
                simp [e0, e1, e2] at hl'
                rw [if_pos hl'.1, decide_eq_true (by omega)]
        rw [this]; rfl
      rw [if_pos h3, if_pos i0, ec, Option.bind_some, cond_true, w64_id (n := i + 1) (by omega) (by omega)]
      exact ih (i + 1) (by omega) (by omega) (by omega)
    · rw [if_neg h3]
theorem rightQ {s : api_Screen} (v : U5 s) : shutterref10_Right.m KK s = some true := by
  have c0 := v.u.c0; have c1 := v.lt; have n := v.n
  unfold shutterref10_Right.m
  rw [v.r, v.c, show shutterref10_Sized.m 1 5 = some true from rfl, Option.bind_some, cond_true, n, if_pos (by decide), if_neg (by omega), if_neg (by omega), right_l v.u KK 0 (by omega) (by omega) (by unfold KK; omega)]
  rfl
theorem replayQ {r0 r1 r2 r3 : shutterref25_Terminal} {k1 k2 k3 : api_Key} {c1 c2 c3 : Int} (h1 : shutterref25_Key.m KK r0 k1 c1 = some (r1, true)) (h2 : shutterref25_Key.m KK r1 k2 c2 = some (r2, true)) (h3 : shutterref25_Key.m KK r2 k3 c3 = some (r3, true))
    (v1 : U5 r1.S) (v2 : U5 r2.S) (v3 : U5 r3.S) : shutterref25_Replay.m KK r0 [⟨false, k1, c1, []⟩, ⟨false, k2, c2, []⟩, ⟨false, k3, c3, []⟩] = some (r3, true) := by
  unfold shutterref25_Replay.m
  have e : shutterref25_Replay.l1.m KK [⟨false, k1, c1, []⟩, ⟨false, k2, c2, []⟩, ⟨false, k3, c3, []⟩] (1048572 + 1 + 1 + 1 + 1) 0 r0 = some r3 := by
    rw [shutterref25_Replay.l1.m]
    simp only [letJ, show at_ [(⟨false, k1, c1, []⟩ : api_Event), ⟨false, k2, c2, []⟩, ⟨false, k3, c3, []⟩] 0 = ⟨false, k1, c1, []⟩ from rfl, h1]
    rw [if_pos (by simp), if_pos (by decide)]
    simp only [cond_false, cond_true, Option.bind_some, rightQ v1, show w64 (0 + 1) = 1 from by decide]
    rw [shutterref25_Replay.l1.m]
    simp only [letJ, show at_ [(⟨false, k1, c1, []⟩ : api_Event), ⟨false, k2, c2, []⟩, ⟨false, k3, c3, []⟩] 1 = ⟨false, k2, c2, []⟩ from rfl, h2]
    rw [if_pos (by simp), if_pos (by decide)]
    simp only [cond_false, cond_true, Option.bind_some, rightQ v2, show w64 (1 + 1) = 2 from by decide]
    rw [shutterref25_Replay.l1.m]
    simp only [letJ, show at_ [(⟨false, k1, c1, []⟩ : api_Event), ⟨false, k2, c2, []⟩, ⟨false, k3, c3, []⟩] 2 = ⟨false, k3, c3, []⟩ from rfl, h3]
    rw [if_pos (by simp), if_pos (by decide)]
    simp only [cond_false, cond_true, Option.bind_some, rightQ v3, show w64 (2 + 1) = 3 from by decide]
    rw [shutterref25_Replay.l1.m, if_neg (by simp)]
  rw [show shutterref25_Replay.l1.m KK [⟨false, k1, c1, []⟩, ⟨false, k2, c2, []⟩, ⟨false, k3, c3, []⟩] KK 0 r0 = some r3 from e]
  rfl
theorem same_l (s : api_Screen) (hl : s.Cells.length ≤ 200) : ∀ (k : Nat) (i : Int), 0 ≤ i → i ≤ (s.Cells.length : Int) → (s.Cells.length : Int) - i < k → shutterref10_Same.l1.m KK s s k i = some () := by
  intro k
  induction k with
  | zero => intro i _ _ h; omega
  | succ k ih =>
    intro i i0 i1 hk
    rw [shutterref10_Same.l1.m]
    by_cases h3 : i < (s.Cells.length : Int)
    · rw [if_pos h3, if_pos i0, if_pos h3]
      simp only [beq_self_eq_true, Bool.and_true, cond_true]
      rw [w64_id (n := i + 1) (by omega) (by omega)]
      exact ih (i + 1) (by omega) (by omega) (by omega)
    · rw [if_neg h3]
theorem sameK {s : api_Screen} (hl : s.Cells.length ≤ 200) : shutterref10_Same.m KK s s = some true := by
  unfold shutterref10_Same.m
  simp only [if_true, bne_self_eq_false, cond_false, same_l s hl KK 0 (by omega) (by omega) (by unfold KK; omega), Option.bind_some]
theorem texts_l {x : List (List Int)} (hx : x.length ≤ 100) (ok : ∀ b ∈ x, b.length ≤ 64) : ∀ (k : Nat) (acc : List (List Int)) (i : Int), 0 ≤ i → i ≤ (x.length : Int) → (x.length : Int) - i < k → acc.length ≤ i → side_texts.l1.m KK x k acc i = some (acc ++ x.drop i.toNat) := by
  intro k
  induction k with
  | zero => intro acc i _ _ h; omega
  | succ k ih =>
    intro acc i i0 i1 hk ha
    rw [side_texts.l1.m]
    simp only [letJ]
    by_cases h3 : i < (x.length : Int)
    · have hb := ok _ (at_in i0 h3)
      rw [if_pos h3, cond_true, if_pos i0, if_pos h3, clone_b (by omega), Option.bind_some, appk (by simp; omega), Option.bind_some, w64_id (n := i + 1) (by omega) (by omega), ih _ (i + 1) (by omega) (by omega) (by omega) (by simp; omega), at_cons i0 h3]
      simp
    · rw [if_neg h3, cond_false, List.drop_eq_nil_of_le (by omega), List.append_nil]
theorem textsK {x : List (List Int)} (hx : x.length ≤ 100) (ok : ∀ b ∈ x, b.length ≤ 64) : side_texts.m KK x = some x := by
  unfold side_texts.m
  rw [texts_l hx ok KK [] 0 (by omega) (by omega) (by unfold KK; omega) (by simp)]
  rfl
theorem bselfK (a : ByteArray) : (a == a) = true := by rw [beq_toListBytes]; simp
theorem sameT_l {x : List (List Int)} (hx : x.length ≤ 100) : ∀ (k : Nat) (i : Int), 0 ≤ i → i ≤ (x.length : Int) → (x.length : Int) - i < k → shutterref23_SameTexts.l1.m KK x x k i = some () := by
  intro k
  induction k with
  | zero => intro i _ _ h; omega
  | succ k ih =>
    intro i i0 i1 hk
    rw [shutterref23_SameTexts.l1.m]
    by_cases h3 : i < (x.length : Int)
    · rw [if_pos h3, if_pos i0, if_pos h3, bselfK, cond_true, w64_id (n := i + 1) (by omega) (by omega)]
      exact ih (i + 1) (by omega) (by omega) (by omega)
    · rw [if_neg h3]
theorem sameTK {x : List (List Int)} (hx : x.length ≤ 100) : shutterref23_SameTexts.m KK x x = some true := by
  unfold shutterref23_SameTexts.m
  rw [if_pos rfl, sameT_l hx KK 0 (by omega) (by omega) (by unfold KK; omega)]
  rfl
theorem eventsQ {k1 k2 k3 : api_Key} {c1 c2 c3 : Int} {c : side_Client} (h : c.events' = [⟨false, k1, c1, []⟩, ⟨false, k2, c2, []⟩, ⟨false, k3, c3, []⟩]) : side_Client_Events.m KK c = some ([⟨false, k1, c1, []⟩, ⟨false, k2, c2, []⟩, ⟨false, k3, c3, []⟩], c) := by
  unfold side_Client_Events.m
  rw [h]
  have e1 : slices_Clone_api_Event.m [(⟨false, k1, c1, []⟩ : api_Event), ⟨false, k2, c2, []⟩, ⟨false, k3, c3, []⟩] = some [⟨false, k1, c1, []⟩, ⟨false, k2, c2, []⟩, ⟨false, k3, c3, []⟩] := by kernel_rfl
  have e2 : side_Client_Events.l1.m KK [(⟨false, k1, c1, []⟩ : api_Event), ⟨false, k2, c2, []⟩, ⟨false, k3, c3, []⟩] KK [⟨false, k1, c1, []⟩, ⟨false, k2, c2, []⟩, ⟨false, k3, c3, []⟩] 0 = some [⟨false, k1, c1, []⟩, ⟨false, k2, c2, []⟩, ⟨false, k3, c3, []⟩] := by kernel_rfl
  rw [e1, Option.bind_some, e2, Option.bind_some]
theorem own_l : ∀ (k : Nat) (x : List Int) (i : Int), x.length ≤ 1000 → 0 ≤ i → i ≤ (x.length : Int) → (x.length : Int) - i < k → ∃ y, shutterlaw25_SideKeeps.l1.m KK k x i = some y ∧ y.length = x.length := by
  intro k
  induction k with
  | zero => intro x i _ _ _ h; omega
  | succ k ih =>
    intro x i hx i0 i1 hk
    rw [shutterlaw25_SideKeeps.l1.m]
    by_cases h3 : i < (x.length : Int)
    · rw [if_pos h3, if_pos i0, w64_id (n := i + 1) (by omega) (by omega)]
      obtain ⟨y, e, h⟩ := ih (x.set i.toNat (bXor .u8 (at_ x i) 255)) (i + 1) (by rw [List.length_set]; exact hx) (by omega) (by rw [List.length_set]; omega) (by rw [List.length_set]; omega)
      exact ⟨y, e, by rw [h, List.length_set]⟩
    · rw [if_neg h3]; exact ⟨x, rfl, rfl⟩
theorem sevens_l : ∀ (k : Nat) (i : Int) (x : List api_Cell), x.length ≤ 1000 → 0 ≤ i → i ≤ (x.length : Int) → (x.length : Int) - i < k → shutterlaw25_SideKeeps.l2.m KK k i x = some () := by
  intro k
  induction k with
  | zero => intro i x _ _ _ h; omega
  | succ k ih =>
    intro i x hx i0 i1 hk
    rw [shutterlaw25_SideKeeps.l2.m]
    by_cases h3 : i < (x.length : Int)
    · rw [if_pos h3, if_pos i0, w64_id (n := i + 1) (by omega) (by omega)]
      exact ih (i + 1) _ (by rw [List.length_set]; exact hx) (by omega) (by rw [List.length_set]; omega) (by rw [List.length_set]; omega)
    · rw [if_neg h3]
theorem firsts_l {t : List (List Int)} (ht : t.length ≤ 1000) (ok : ∀ m ∈ t, okM m) : ∀ (k : Nat) (i : Int), 0 ≤ i → i ≤ (t.length : Int) → (t.length : Int) - i < k → shutterlaw25_SideKeeps.l3.m KK t k i = some () := by
  intro k
  induction k with
  | zero => intro i _ _ h; omega
  | succ k ih =>
    intro i i0 i1 hk
    rw [shutterlaw25_SideKeeps.l3.m]
    by_cases h3 : i < (t.length : Int)
    · have o := (ok _ (at_in i0 h3)).2.1
      rw [if_pos h3, if_pos i0, if_pos (by omega), w64_id (n := i + 1) (by omega) (by omega)]
      exact ih (i + 1) (by omega) (by omega) (by omega)
    · rw [if_neg h3]
theorem heard_l {key : List Int} (hk : key.length ≤ 100) (wk : ∀ y ∈ key, Wf .u8 y) {t : List (List Int) × side_Client} (ht : t.1.length ≤ 8) : ∀ (M : List (List Int)) (k : Nat) (n i : Int) (h : side_Host), M.length < k → 0 ≤ i → t.1.drop i.toNat = outs key 0 n (qs n M) → (∀ m ∈ M, okM m) → 0 ≤ n → n + (M.length : Int) ≤ 2 → HQ key n h →
    shutterlaw25_SideKeeps.l4.m KK key t k i h = some () := by
  intro M
  induction M with
  | nil =>
    intro k n i h hk' i0 hd _ n0 n1 H
    obtain ⟨k, rfl⟩ : ∃ q, k = q + 1 := ⟨k - 1, by simp at hk'; omega⟩
    have hl : ¬ i < (t.1.length : Int) := by
      have := congrArg List.length hd
      rw [List.length_drop, qs, outs, List.length_nil] at this
      omega
    rw [shutterlaw25_SideKeeps.l4.m, if_neg hl]
  | cons m M ih =>
    intro k n i h hk' i0 hd ok n0 n1 H
    obtain ⟨k, rfl⟩ : ∃ q, k = q + 1 := ⟨k - 1, by simp at hk'; omega⟩
    simp only [List.length_cons] at n1
    rw [qs, outs] at hd
    obtain ⟨h1, h2, h3⟩ := drop_cons i0 hd
    obtain ⟨eo, q, eh, Hq⟩ := hearQ hk wk (m := n) (by omega) H (ok m (List.mem_cons_self ..))
    rw [shutterlaw25_SideKeeps.l4.m, if_pos h1, if_pos i0, h2]
    refine bindQ eo ?_
    simp only [if_true]
    refine bindQ eh ?_
    simp only [if_true]
    rw [w64_id (n := i + 1) (by omega) (by omega)]
    exact ih k (n + 1) (i + 1) _ (by simp at hk'; omega) (by omega) h3 (fun x hx => ok x (List.mem_cons_of_mem _ hx)) (by omega) (by omega) Hq
theorem pairQ {key : List Int} (hk : key.length ≤ 100) : ∃ c h, shutterlaw25_pair.m key 1 5 = some (c, h, true) ∧ CQ key [] [] c ∧ c.s' = S0 ∧ HQ key 0 h := by
  have gn : grid_New.m 1 5 = some (S0, .nil) := by kernel_rfl
  unfold shutterlaw25_pair.m side_NewClient.m side_NewHost.m side_made.m line_New.m grid_Size.m
  rw [gn]
  simp only [Option.bind_some, if_true, clone_b (show key.length ≤ 100000 by omega)]
  rw [if_neg (by decide)]
  simp only [Option.bind_some, if_true]
  exact ⟨_, _, rfl, ⟨S0_ok, rfl, rfl, by simp, rfl, rfl, rfl, rfl, rfl⟩, rfl, ⟨rfl, rfl, rfl, rfl, rfl, rfl, rfl, rfl, rfl, by simp⟩⟩
theorem awake25Q : shutterlaw25_awake.m KK = some true := by kernel_rfl
end Go.Proofs.YtjkbhpokboolpaaGreatDoor.Sx

namespace Go.Proofs.YtjkbhpokboolpaaGreatDoor.Sx
open Go
set_option maxRecDepth 100000
set_option maxHeartbeats 4000000
theorem scrQ {c : side_Client} {s : api_Screen} (v : U5 s) (h : c.s' = s) : side_Client_Screen.m c = some (s, c) := by
  unfold side_Client_Screen.m
  rw [h, copyU v.u]; rfl
theorem sntQ {c : side_Client} {M : List (List Int)} (h : c.sent' = M) (hM : M.length ≤ 100) (ok : ∀ b ∈ M, b.length ≤ 64) : side_Client_Sent.m KK c = some M := by
  unfold side_Client_Sent.m
  rw [h, textsK hM ok]; rfl
theorem tickC {key : List Int} (hk : key.length ≤ 100) (wk : ∀ y ∈ key, Wf .u8 y) {M : List (List Int)} {evs : List api_Event} {c : side_Client} (C : CQ key M evs c) (lM : 1 ≤ M.length ∧ M.length ≤ 2) :
    side_Client_Tick.m KK c = some (outs key 0 0 (qs 0 M), ⟨⟨c.side'.key', c.side'.gate', ⟨qs 0 M, (M.length : Int), 1, [], [], 2, 1, false⟩, c.side'.dir', 0 + (((qs 0 M).length : Int) - 0)⟩, c.s', c.todo', c.sent', c.events'⟩) := by
  have ql := qs_len M 0
  have ok := qs_ok M 0 (by omega) (by omega) C.ok
  have work : side_Client_work.m KK c = some c := by
    unfold side_Client_work.m
    have : side_Client_work.l1.m KK c (1048575 + 1) = some () := by
      rw [side_Client_work.l1.m, C.td, if_neg (by simp)]
    rw [show side_Client_work.l1.m KK c KK = some () from this]
    rfl
  have pk := packs_l (key := key) hk wk (d := 0) (.inl rfl) (sd := c.side') C.k C.d (t := (qs 0 M, lnQ M 2 1)) (fun p hp => ⟨⟨(ok p hp).1, (ok p hp).2.2.1, (ok p hp).2.2.2.1⟩, (ok p hp).2.1⟩) (by show (qs 0 M).length ≤ 8; omega) KK [] 0 0 (by omega) (by simp) (by simp only; unfold KK; omega) (by simp) (by omega) (by omega)
  rw [Int.toNat_zero, List.drop_zero, List.nil_append] at pk
  unfold side_Client_Tick.m side_side_packs.m
  rw [work, Option.bind_some]
  have tk := tickQ lM.1 lM.2 C.ok
  rw [← C.ln] at tk
  have tk' : line_Line_Tick.m KK (⟨c.side'.key', (⟨c.side'.gate'.Key, c.side'.gate'.Dir, c.side'.gate'.Seen, c.side'.gate'.Peer⟩ : roam_Gate), c.side'.line', c.side'.dir', c.side'.seq'⟩ : side_side).line' = some (qs 0 M, lnQ M 2 1) := tk
  rw [tk']
  simp only [Option.bind_some]
  have pk2 : side_side_packs.l1.m KK c.side' (qs 0 M, lnQ M 2 1) KK [] 0 c.side'.seq' = some (outs key 0 0 (qs 0 M), 0 + (((qs 0 M).length : Int) - 0)) := by rw [C.sq]; exact pk
  have pk' : side_side_packs.l1.m KK (⟨c.side'.key', (⟨c.side'.gate'.Key, c.side'.gate'.Dir, c.side'.gate'.Seen, c.side'.gate'.Peer⟩ : roam_Gate), c.side'.line', c.side'.dir', c.side'.seq'⟩ : side_side) (qs 0 M, lnQ M 2 1) KK [] 0 c.side'.seq' = some (outs key 0 0 (qs 0 M), 0 + (((qs 0 M).length : Int) - 0)) := pk2
  rw [pk', Option.bind_some]
  simp only [C.ln]
  rfl
theorem SideKeeps_true (x0 : List Int) (x1 : api_Key) (w0 : ∀ y ∈ x0, Wf .u8 y) (_ : x0.length ≤ maxLen) (w1 : ok_api_Key x1) : shutterlaw25_SideKeeps.m KK x0 x1 = some true := by
  have wc : Wf .u8 x1.Char := w1.2
  have b8 := b_u8 wc
  unfold shutterlaw25_SideKeeps.m
  refine bindQ awake25Q ?_
  rw [cond_true]
  by_cases hl : (x0.length : Int) > 100
  · rw [if_pos hl]; exact bindQ awake25Q rfl
  rw [if_neg hl]
  have hk : x0.length ≤ 100 := by omega
  refine bindQ (x := x0) (by rw [appk (by simp; omega)]; rfl) ?_
  obtain ⟨c, h, ep, C, cs, H⟩ := pairQ (key := x0) hk
  refine bindQ ep ?_
  simp only [cond_true]
  obtain ⟨own, eown, lown⟩ := own_l KK x0 0 (by omega) (by omega) (by omega) (by unfold KK; omega)
  refine bindQ eown ?_
  -- the keys
  obtain ⟨t, a, e, w, i, f1, f2, hc, ht, hA⟩ := keyQ (k := x1) b8.1 b8.2
  rw [← cs] at f1 f2
  obtain ⟨q1, g1, C1, s1, r1⟩ := keyS C (by simp) (by simp) wc f1 f2 hc ht hA
  have hM1 : (if a = true then ([] : List (List Int)) ++ [0 :: rep c.s' x1.Char] else []).length ≤ 1 := by split <;> simp
  generalize (if a = true then ([] : List (List Int)) ++ [0 :: rep c.s' x1.Char] else []) = M1 at C1 r1 hM1
  refine bindQ g1 ?_
  have v1 : U5 (comp c q1.2.2).s' := C1.u
  have z1 := resetQ v1
  obtain ⟨q2, g2, C2, s2, r2⟩ := keyS C1 (by omega) (by simp) (k := ⟨16, 0⟩) w8_0 z1.1 z1.2 rfl (v1.with v1.u.co v1.u.c0 v1.lt _ _) (fun x => by cases x)
  rw [if_neg (by decide)] at C2 r2
  refine bindQ (x := q2) g2 ?_
  have v2 : U5 (comp (comp c q1.2.2) q2.2.2).s' := C2.u
  have z2 := enterQ v2 (by show q2.2.2.s'.Locked = false; rw [s2])
  obtain ⟨q3, g3, C3, s3, r3⟩ := keyS C2 (by omega) (by simp) (k := ⟨17, 125⟩) (wf8i (by decide) (by decide)) z2.1 z2.2 rfl (v2.with v2.u.co v2.u.c0 v2.lt _ _) (fun _ => ⟨rfl, rfl⟩)
  rw [if_pos rfl] at C3 r3
  refine bindQ (x := q3) g3 ?_
  generalize hM : M1 ++ [0 :: rep (comp (comp c q1.2.2) q2.2.2).s' (⟨17, 125⟩ : api_Key).Char] = M at C3 r3
  have lM : 1 ≤ M.length ∧ M.length ≤ 2 := by rw [← hM]; simp; omega
  have v3 : U5 (comp (comp (comp c q1.2.2) q2.2.2) q3.2.2).s' := C3.u
  have h3 : q3.2.2.sent' = M := C3.sent
  have r1' : shutterref25_Key.m KK ⟨S0, []⟩ x1 (codeOf e) = some (⟨q1.2.2.s', M1⟩, true) := by rw [s1, ← cs]; exact r1
  have r2' : shutterref25_Key.m KK ⟨q1.2.2.s', M1⟩ ⟨16, 0⟩ (codeOf .nil) = some (⟨q2.2.2.s', M1⟩, true) := by rw [s2]; exact r2
  have r3' : shutterref25_Key.m KK ⟨q2.2.2.s', M1⟩ ⟨17, 125⟩ (codeOf .nil) = some (⟨q3.2.2.s', M⟩, true) := by rw [s3]; exact r3
  have rp := replayQ r1' r2' r3' v1 v2 v3
  have hm64 : ∀ b ∈ M, b.length ≤ 64 := fun b hb => by have := (C3.ok b hb).2.2; omega
  refine bindQ (scrQ (s := q3.2.2.s') v3 rfl) ?_
  refine bindQ (sevens_l KK 0 q3.2.2.s'.Cells (by have := v3.u.len; exact Nat.le_trans this (by decide)) (by omega) (by omega) (by have : q3.2.2.s'.Cells.length ≤ 200 := v3.u.len; unfold KK; omega)) ?_
  refine bindQ (sntQ h3 (by omega) hm64) ?_
  refine bindQ (firsts_l (by omega) C3.ok KK 0 (by omega) (by omega) (by unfold KK; omega)) ?_
  refine bindQ (x := ⟨S0, []⟩) (by kernel_rfl) ?_
  refine bindQ (eventsQ (k1 := x1) (k2 := ⟨16, 0⟩) (k3 := ⟨17, 125⟩) C3.ev) ?_
  refine bindQ rp ?_
  simp only [cond_true]
  refine bindQ (tickC hk w0 C3 lM) ?_
  refine bindQ (heard_l hk w0 (by simp only [outs_len, qs_len]; omega) M KK 0 0 h (by unfold KK; omega) (by omega) rfl C3.ok (by omega) (by omega) H) ?_
  refine bindQ (scrQ (s := q3.2.2.s') v3 rfl) ?_
  refine bindQ (sameK v3.u.len) ?_
  rw [cond_true]
  refine bindQ (sntQ h3 (by omega) hm64) ?_
  refine bindQ (sameTK (by omega)) ?_
  rw [cond_true]
  refine bindQ (same_eq (by omega)) ?_
  simp
end Go.Proofs.YtjkbhpokboolpaaGreatDoor.Sx
