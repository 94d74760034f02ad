/- Printed walks, part 1: each function's model, and that the code comes to it. -/
import Derived.Test.YtfbcjibdgicaoaaDoorProg
import Derived.Test.YtfbcjibdgicaoaaDoorV4
import Derived.Test.YtfbcjibdgicaoaaDoorV6
import Derived.Test.YtfbcjibdgicaoaaDoorV7
import Derived.Test.YtfbcjibdgicaoaaDoorV8
import Derived.Test.YtfbcjibdgicaoaaDoorG0
namespace Go.Proofs.YtfbcjibdgicaoaaDoor.Sx
open Go
set_option maxRecDepth 100000
set_option maxHeartbeats 4000000

/-! shutter/field.round -/
def field_round.xs (s : api_Screen) (sg : Int) : Nat → Int → Option (List Int)
  | 0, _ => some []
  | n + 1, x => (grid_On.m s x sg).bind fun y => (field_round.xs s sg n y).bind fun l => some (x :: l)
def field_round.m (x0 : api_Screen) (x1 : Int) (x2 : Int) : Option (List Int) :=
  if (x0.Cells.length : Int) ≤ 1099511627776 then (grid_On.m x0 x1 x2).bind fun x => (field_sign.m x2).bind fun sg => field_round.xs x0 sg x0.Cells.length x else none
theorem field_round.xs_len {s : api_Screen} {sg : Int} : ∀ {n : Nat} {x : Int} {l : List Int}, field_round.xs s sg n x = some l → l.length = n
  | 0, _, l, h => by obtain rfl := Option.some.inj h; rfl
  | n + 1, x, l, h => by
    unfold field_round.xs at h
    obtain ⟨y, _, h⟩ := bind_some h
    obtain ⟨l', h1, h⟩ := bind_some h
    obtain rfl := Option.some.inj h
    rw [List.length_cons, field_round.xs_len h1]
theorem field_round.xs_cons {s : api_Screen} {sg : Int} {n : Nat} {x x' : Int} {l : List Int} (h : field_round.xs s sg (n + 1) x = some (x' :: l)) : x' = x ∧ ∃ y, grid_On.m s x sg = some y ∧ field_round.xs s sg n y = some l := by
  unfold field_round.xs at h
  obtain ⟨y, h1, h⟩ := bind_some h
  obtain ⟨l', h2, h⟩ := bind_some h
  have e := Option.some.inj h
  obtain ⟨rfl, rfl⟩ := List.cons.inj e
  exact ⟨rfl, y, h1, h2⟩

theorem field_round.calls {B I : Gh} {h : Heap} {x0 : api_Screen} {x1 : Int} {x2 : Int} {a21 : Option Addr} {p22 : Nat} {n23 : Nat} {r : List Int} (H : field_round.m x0 x1 x2 = some r) :
    Fc Tryd.prog 44 #[.agg #[.int .i64 x0.Rows, .int .i64 x0.Cols, .slice a21 n23 p22, .int .i64 x0.Cursor, .bool x0.Locked, .bool x0.Insert], .int .i64 x1, .int .i64 x2] [] B I h
      (fun v L => ∃ (b1 b2 b3 : Nat), v = .func (.func 51) #[] #[.pointer (some ⟨b1, 0, none⟩), .pointer (some ⟨b2, 0, none⟩), .pointer (some ⟨b3, 0, none⟩)] ∧
        L = [rB b1 [.int .i64 x0.Rows, .int .i64 x0.Cols, .slice a21 n23 p22, .int .i64 x0.Cursor, .bool x0.Locked, .bool x0.Insert] 31, rB b2 [.int .i64 x1] 3, rB b3 [.int .i64 x2] 3] ∧ field_round.m x0 x1 x2 = some r) := by
 refine fc_of fun E hs => ?_
 refine fn_of (args := [.agg #[.int .i64 x0.Rows, .int .i64 x0.Cols, .slice a21 n23 p22, .int .i64 x0.Cursor, .bool x0.Locked, .bool x0.Insert], .int .i64 x1, .int .i64 x2]) (rs := [.tmp 6]) (N := 8) Tryd.func44 rfl rfl rfl rfl ?_
 refine st 2 [] (k_op (nB hs [.int .i64 x0.Rows, .int .i64 x0.Cols, .slice a21 n23 p22, .int .i64 x0.Cursor, .bool x0.Locked, .bool x0.Insert] ?_))
 intro b1 h hs
 refine k_op (nB hs [.int .i64 x1] ?_)
 intro b2 h hs
 refine k_op (nB hs [.int .i64 x2] ?_)
 intro b3 h hs
 refine st 7 [] ?_
 refine k_retQ ?_
 exact ⟨_, by kernel_rfl, I, _, ⟨b1, b2, b3, rfl, rfl, H⟩, hs.pk (.c d2 (.c d1 (.c d0 .n)))⟩

/-- What the iterator reads. -/
structure RndH (s : api_Screen) (x1 x2 : Int) (a : Option Addr) (p n b1 b2 b3 : Nat) (h : Heap) : Prop where
  s1 : segAt h (some ⟨b1, 0, none⟩) 0 6 = some [.int .i64 s.Rows, .int .i64 s.Cols, .slice a n p, .int .i64 s.Cursor, .bool s.Locked, .bool s.Insert]
  c1 : cellAt h (some ⟨b1, 0, none⟩) 2 = some (.slice a n p)
  c2 : cellAt h (some ⟨b2, 0, none⟩) 0 = some (.int .i64 x1)
  c3 : cellAt h (some ⟨b3, 0, none⟩) 0 = some (.int .i64 x2)
  rd : ∃ I, Bd I h ∧ Rd t_api_Cell I h a p s.Cells
  len : s.Cells.length = n
theorem grid_On.ret {s : api_Screen} {x y r : Int} {a : Option Addr} {p n : Nat} {h : Heap} (H : grid_On.m s x y = some r) (hr : ∃ I, Bd I h ∧ Rd t_api_Cell I h a p s.Cells) (hl : s.Cells.length = n) :
    Ret Tryd.prog 33 #[.agg #[.int .i64 s.Rows, .int .i64 s.Cols, .slice a n p, .int .i64 s.Cursor, .bool s.Locked, .bool s.Insert], .int .i64 x, .int .i64 y] h (fun v h' => v = .int .i64 r ∧ Grown h h') := by
  obtain ⟨I, hB, rd⟩ := hr
  have pl : St (en [rR t_api_Cell .b a p n s.Cells] No I h) [rR t_api_Cell .b a p n s.Cells] I h :=
    ⟨Pst.refl hB, fun _ x => x.elim, fun _ _ x => x, ⟨⟨⟨rd.mono (fun _ y => .inl y), hl⟩, fun _ x => x.elim, fun _ x => x.elim⟩, trivial⟩, fun _ x => .inl x⟩
  refine (grid_On.calls (B := No) H pl).mono ?_
  rintro v h' ⟨I', L, ⟨rfl, rfl⟩, hs⟩
  exact ⟨rfl, hs.pst.grown fun b x => x.elim id id⟩

theorem field_round.iter {s : api_Screen} {x1 x2 : Int} {a : Option Addr} {p n b1 b2 b3 : Nat} {xs : List Int} (H : field_round.m s x1 x2 = some xs) :
    Iter Tryd.prog 51 #[.pointer (some ⟨b1, 0, none⟩), .pointer (some ⟨b2, 0, none⟩), .pointer (some ⟨b3, 0, none⟩)] (fun x => #[Value.int .i64 x]) xs (RndH s x1 x2 a p n b1 b2 b3) := by
  unfold field_round.m at H
  obtain ⟨hlim, H⟩ := guard_pos H
  intro l J Jx hJH hJG hXG hy h h0
  have H0 := hJH _ _ h0
  refine fn_of (args := [.func (.yield l) #[] #[], .pointer (some ⟨b1, 0, none⟩), .pointer (some ⟨b2, 0, none⟩), .pointer (some ⟨b3, 0, none⟩)]) (rs := []) (N := 25) Tryd.func51 rfl rfl rfl rfl ?_
  refine st 2 [] (k_op (lG (a := some ⟨b1, 0, none⟩) (n := 0) H0.s1 ?_))
  refine k_op (lC (a := some ⟨b2, 0, none⟩) (n := 0) H0.c2 ?_)
  refine k_op (lC (a := some ⟨b3, 0, none⟩) (n := 0) H0.c3 ?_)
  refine k_call H (fun _ m => grid_On.ret m H0.rd H0.len) ?_
  rintro x _ h1 H ⟨rfl, g1⟩
  have h0 := hJG _ _ _ h0 g1
  have H0 := hJH _ _ h0
  obtain ⟨sg, Hs, H⟩ := bind_some H
  have hln := field_round.xs_len H
  have hn := H0.len
  refine st 5 [] (k_op (lC (a := some ⟨b1, 0, none⟩) (n := 2) H0.c1 ?_))
  refine st 4 [] ?_
  refine k_loop 0 (fun k ρ h => ∃ (pre rest : List Int) (x i : Int), xs = pre ++ rest ∧ field_round.xs s sg rest.length x = some rest ∧ k = rest.length ∧ i = (pre.length : Int) ∧
    Fits [(0, .func (.yield l) #[] #[]), (1, .pointer (some ⟨b1, 0, none⟩)), (2, .pointer (some ⟨b2, 0, none⟩)), (3, .pointer (some ⟨b3, 0, none⟩)), (5, .int .i64 x), (12, .int .i64 (n : Int)), (13, .int .i64 i)] ρ ∧ J pre h)
    (fun _ h => J xs h) xs.length ⟨[], xs, x, 0, rfl, by rw [hln]; exact H, rfl, rfl, ⟨by kernel_rfl, by kernel_rfl, by kernel_rfl, by kernel_rfl, by kernel_rfl, by kernel_rfl, by kernel_rfl, trivial⟩, h0⟩ ?_ rfl ?_
  · rintro k ρ h2 ⟨pre, rest, x, i, hx, hr, rfl, hi, hf, hJ⟩
    refine k_fits _ hf ?_ rfl
    have H0 := hJH _ _ hJ
    have hl2 : (pre.length : Int) + (rest.length : Int) = (n : Int) := by rw [← hn, ← hln, hx, List.length_append]; omega
    cases rest with
    | nil =>
      rw [List.append_nil] at hx
      subst hx
      refine st 2 [] (k_val (.bool false) (pr_bool (b := decide (i < (n : Int))) (by kernel_rfl) (decide_eq_false (by rw [hi]; simp at hl2; omega))) ?_)
      refine st 3 [false] ?_
      refine k_out rfl ?_
      exact xE hJ
    | cons x' rest =>
      rw [List.length_cons] at hl2
      obtain ⟨rfl, y, hy1, hy2⟩ := field_round.xs_cons hr
      refine st 2 [] (k_val (.bool true) (pr_bool (b := decide (i < (n : Int))) (by kernel_rfl) (decide_eq_true (by rw [hi]; omega))) ?_)
      refine st 11 [true] (k_op (owp_yield (args := #[.int .i64 x']) (hy pre x' rest h2 hx hJ) ?_))
      rintro b h3 (⟨rfl, hJ3⟩ | ⟨rfl, hX⟩)
      · have H3 := hJH _ _ hJ3
        refine st 4 [false] ?_
        refine k_regP 6 ?_
        refine aG (a := some ⟨b1, 0, none⟩) (n := 0) 0 rfl Keep.refl H3.s1 (fun _ _ x => x) ?_
        refine aRun [1] 4 Keep.refl ?_
        refine aL (a := some ⟨b3, 0, none⟩) (n := 0) 2 rfl Keep.refl H3.c3 (fun _ _ x => x) ?_
        refine aO1 3 rfl (owp_callF (by kernel_rfl) (field_sign.calls Hs) ?_)
        rintro v h' ⟨e1, e2⟩
        rw [← e1, e2]
        refine ⟨Keep.refl, ?_⟩
        refine aO1 4 rfl (owp_callF (by kernel_rfl) (grid_On.ret hy1 H3.rd H3.len) ?_)
        rintro _ h4 ⟨rfl, g4⟩
        have hk : Keep No h3 h4 := fun b hb _ => g4.keep b hb
        refine ⟨hk, ?_⟩
        refine aRun [5] 0 hk ?_
        refine aEnd ?_
        refine st 5 [] ?_
        have e : w64 (i + 1) = ((pre ++ [x']).length : Int) := by
          rw [List.length_append, List.length_singleton, w64_sm (by omega) (by omega)]; omega
        exact k_endL ⟨rest.length, by simp, pre ++ [x'], rest, y, w64 (i + 1), by rw [hx]; simp, hy2, rfl, e, ⟨by kernel_rfl, by kernel_rfl, by kernel_rfl, by kernel_rfl, by kernel_rfl, by kernel_rfl, by kernel_rfl, trivial⟩, hJG _ _ _ hJ3 g4⟩
      · refine st 3 [true] ?_
        refine k_retQ (krL ?_)
        exact ⟨.tuple #[], by kernel_rfl, .inr ⟨_, hX⟩⟩
  · rintro ρ h2 hJ
    refine k_fin ?_
    exact ⟨.tuple #[], by kernel_rfl, .inl hJ⟩

/-! shutter/field.Begin -/
def field_Begin.l1.m (K : Nat) (x0 : api_Screen) : List Int → Option (Int ⊕ (Unit))
  | [] => some (Sum.inr ())
  | x42 :: xs => (if 0 ≤ x42 then (if x42 < (x0.Cells.length : Int) then (bif (at_ x0.Cells x42).Field then (some (Sum.inl x42)) else (field_Begin.l1.m K x0 xs)) else none) else none)
def field_Begin.m (K : Nat) (x0 : api_Screen) (x1 : Int) : Option Int :=
  (if 0 ≤ x1 then (if x1 < (x0.Cells.length : Int) then (bif (at_ x0.Cells x1).Field then (some x1) else ((field_round.m x0 x1 (-1)).bind fun t33 => ((field_Begin.l1.m K x0 t33).bind fun s39 => match s39 with | .inl q => (some q) | .inr _ => (some (-1))))) else none) else none)

theorem field_Begin.calls {B I : Gh} {h : Heap} {K : Nat} {x0 : api_Screen} {x1 : Int} {a21 : Option Addr} {p22 : Nat} {n23 : Nat} {r : Int} (H : field_Begin.m K x0 x1 = some r)  :
    Fc Tryd.prog 43 #[.agg #[.int .i64 x0.Rows, .int .i64 x0.Cols, .slice a21 n23 p22, .int .i64 x0.Cursor, .bool x0.Locked, .bool x0.Insert], .int .i64 x1] [rR t_api_Cell .b a21 p22 n23 x0.Cells] B I h (fun v L => v = .int .i64 r ∧ L = []) := by
 refine fc_of fun E hs => ?_
 unfold field_Begin.m at H
 obtain rfl := hs.nR d0
 refine fn_rangeW2 (args := [.agg #[.int .i64 x0.Rows, .int .i64 x0.Cols, .slice a21 x0.Cells.length p22, .int .i64 x0.Cursor, .bool x0.Locked, .bool x0.Insert], .int .i64 x1]) (rs := [.cell 4 3]) (N := 24) [_, _] Tryd.func43 rfl rfl rfl rfl ?_
 refine st 1 [] (k_op (nB hs [.int .i64 x0.Rows, .int .i64 x0.Cols, .slice a21 x0.Cells.length p22, .int .i64 x0.Cursor, .bool x0.Locked, .bool x0.Insert] ?_))
 intro b25 h hs
 refine k_op (nA hs [.int .i64 0] (.int .i64 0) ?_)
 intro b26 h hs
 refine st 4 [] (k_op (lB (hs.bl d1) 2 rfl ?_))
 obtain ⟨c27, H⟩ := guard_pos H
 obtain ⟨c28, H⟩ := guard_pos H
 refine st 1 [] (k_val (elemPtr a21 (x1.toNat * 6)) (pI (e := 66) (ik := .i64) (hs.sR d2) c27 c28) ?_)
 refine k_val (elemPtr a21 (x1.toNat * 6 + 0)) (pF (off := 0) (hs.sR d2) c27 c28) ?_
 obtain ⟨y30, g29, q31⟩ := (hs.sR d2).toSl.seg c27 c28
 obtain rfl := t_api_Cell.open_ q31
 refine k_op (lC (seg_cell (f := 0) g29 rfl) ?_)
 refine k_spl H (fun c32 H => ?_) (fun c32 H => ?_)
 ·refine st 5 [true] (k_op (sB (v := .int .i64 x1) hs cw0 ?_))
  intro h hs
  refine st 1 [] ?_
  refine k_retQ (krF ?_)
  obtain rfl := Option.some.inj H
  exact ⟨[.int .i64 x1], (.cons (.one (by kernel_rfl) (by kernel_rfl) ((hs.bl d0).cell (off := 0) rfl)) .nil), I, _, ⟨rfl, rfl⟩, hs.pk .n⟩
 ·refine st 4 [false] (k_op (lN (hs.bl d1) 0 6 ?_))
  obtain ⟨hk, bk⟩ := hs.call tk0 .n
  refine st 1 [] (k_call H (fun _ m => field_round.calls (a21 := a21) (p22 := p22) (n23 := x0.Cells.length) m hk) ?_)
  rintro t33 _ h H ⟨I, _, ⟨b34, b35, b36, rfl, rfl, m37⟩, hk⟩
  replace hs := bk hk ct3 rfl
  refine st 1 [] ?_
  obtain ⟨s39, m40, HR41⟩ := bind_some H
  clear H
  obtain ⟨h38, eh38⟩ : ∃ h', h' = h := ⟨_, rfl⟩
  subst eh38
  refine k_loopW (range_st (p := 16) (enc := fun (x : Int) => .int .i64 x) (hs.pk (.c d5 (.c d4 (.c d3 (.c d0 (.c d0 (.c d0 .n))))))) (fun (pre : List Int) L => ∃ (rest : List Int), t33 = pre ++ rest ∧ (field_Begin.l1.m K x0 rest) = some s39 ∧ L = [rR t_api_Cell .b a21 p22 x0.Cells.length x0.Cells, rB b25 [.int .i64 x0.Rows, .int .i64 x0.Cols, .slice a21 x0.Cells.length p22, .int .i64 x0.Cursor, .bool x0.Locked, .bool x0.Insert] 31, rB b26 [.int .i64 0] 3, rB b34 [.int .i64 x0.Rows, .int .i64 x0.Cols, .slice a21 x0.Cells.length p22, .int .i64 x0.Cursor, .bool x0.Locked, .bool x0.Insert] 31, rB b35 [.int .i64 x1] 3, rB b36 [.int .i64 (-1)] 3]) (mkY (fun L => ∃ (x43 : Int), Sum.inl x43 = s39 ∧ L = [rB b26 [.int .i64 x43] 3]) (fun _ _ => False)) ⟨t33, rfl, m40, rfl⟩ (by kernel_rfl) (enters_of Tryd.func51 rfl (by kernel_rfl)) (field_round.iter (a := a21) (p := p22) (n := x0.Cells.length) (b1 := b34) (b2 := b35) (b3 := b36) m37) ?_ (fun x => [(5, .int .i64 x), (16, .int .i64 x)]) ?_ rfl ?_) ?_ ?_ ?_
  ·rintro o pre L I h' ⟨rest, _, _, rfl⟩ hs
   exact ⟨(hs.bl d4).seg_ 0 6 (Nat.le_of_ble_eq_true rfl), (hs.bl d4).cell (off := 2) rfl, (hs.bl d5).cell (off := 0) rfl, (hs.bl d6).cell (off := 0) rfl, ⟨_, hs.bdG (k := .b), hs.rd d1⟩, rfl⟩
  ·intro x Q h' q
   refine st 3 [] ?_
   exact k_fin2 q
  ·rintro o pre x42 rest' L I h hx' ⟨rest, hx, H, rfl⟩ hs
   obtain rfl : rest = x42 :: rest' := List.append_cancel_left (hx.symm.trans hx')
   clear hx'
   obtain ⟨rest, erest⟩ : ∃ r, r = rest' := ⟨_, rfl⟩
   subst erest
   rw [field_Begin.l1.m] at H
   refine st 4 [] (k_op (lB (hs.bl d2) 2 rfl ?_))
   obtain ⟨c44, H⟩ := guard_pos H
   obtain ⟨c45, H⟩ := guard_pos H
   refine st 1 [] (k_val (elemPtr a21 (x42.toNat * 6)) (pI (e := 66) (ik := .i64) (hs.sR d1) c44 c45) ?_)
   refine k_val (elemPtr a21 (x42.toNat * 6 + 0)) (pF (off := 0) (hs.sR d1) c44 c45) ?_
   obtain ⟨y47, g46, q48⟩ := (hs.sR d1).toSl.seg c44 c45
   obtain rfl := t_api_Cell.open_ q48
   refine k_op (lC (seg_cell (f := 0) g46 rfl) ?_)
   refine k_spl H (fun c49 H => ?_) (fun c49 H => ?_)
   ·refine st 5 [true] (k_op (sB (v := .int .i64 x42) (hs.f d3) cw0 ?_))
    intro h hs
    refine st 1 [] ?_
    refine k_retQ ?_
    obtain rfl := Option.some.inj H
    exact ⟨_, I, ⟨x42, rfl, rfl⟩, hs.pk (.c d1 (.c d0 .n))⟩
   ·refine st 4 [false] ?_
    refine k_fin ?_
    exact ⟨_, I, ⟨rest, by simp [hx], H, rfl⟩, hs.pk (.c d0 (.c d0 (.c d0 (.c d0 (.c d0 (.c d0 (.c d0 .n)))))))⟩
  ·intro h2 hk
   have key : ∃ (o : Obj) (I : Gh), Sum.inr () = s39 ∧ St E (rQ h38.size (h38.size + 1) o :: [rB b26 [.int .i64 0] 3]) I h2 := by
     rcases hk with ⟨o, L, I, ⟨rest, hx, H, rfl⟩, hs⟩ | ⟨o, L, I, hy, hs⟩
     · obtain rfl : rest = [] := List.append_cancel_left (hx.symm.trans (List.append_nil _).symm)
       rw [field_Begin.l1.m] at H
       obtain rfl := Option.some.inj H
       exact ⟨o, I, rfl, hs.pk (.c d0 (.c d2 .n))⟩
     · exact hy.elim
   obtain ⟨o, I, rfl, hs⟩ := key
   have H := HR41
   try dsimp only at H
   refine st 2 [] (k_op (sB (v := .int .i64 (-1)) (hs.f d1) cw0 ?_))
   intro h hs
   refine st 1 [] ?_
   refine k_retQ (krM ?_)
   obtain rfl := Option.some.inj H
   refine ⟨(hs.rqD d1).1, ?_⟩
   replace hs := (hs.f d1).rqe
   exact ⟨[.int .i64 (-1)], (.cons (.one (by kernel_rfl) (by kernel_rfl) ((hs.bl d0).cell (off := 0) rfl)) .nil), I, _, ⟨rfl, rfl⟩, hs.pk .n⟩
  ·rintro h2 ⟨o, L, I, ⟨x43, rfl, rfl⟩, hs⟩
   have H := HR41
   try dsimp only at H
   obtain rfl := Option.some.inj H
   refine ⟨(hs.rqD d0).1, ?_⟩
   replace hs := hs.rqe
   exact ⟨[.int .i64 x43], (.cons (.one (by kernel_rfl) (by kernel_rfl) ((hs.bl d0).cell (off := 0) rfl)) .nil), I, _, ⟨rfl, rfl⟩, hs.pk .n⟩
  ·intro i L hy
   exact hy.elim

/-! shutter/field.Cells -/
def field_Cells.l1.m (K : Nat) (x0 : api_Screen) : Nat → Int → (List Int) → Option ((List Int))
  | 0, _, _ => none
  | k + 1, x31, x32 => (letJ (α := Bool → Option ((List Int))) (fun (x46 : Bool) => (bif x46 then ((app x32 [x31]).bind fun l50 => (field_Cells.l1.m K x0 k (w64 (x31 + 1)) l50)) else (some (x32)))) fun (j47 : Bool → Option ((List Int))) => (if x31 < (x0.Cells.length : Int) then (j47 true) else (j47 false)))
def field_Cells.l2.m (K : Nat) (x0 : api_Screen) : List Int → (List Int) → Option ((List Int))
  | [], x61 => some (x61)
  | x70 :: xs, x61 => (if 0 ≤ x70 then (if x70 < (x0.Cells.length : Int) then (bif (at_ x0.Cells x70).Field then (some (x61)) else ((app x61 [x70]).bind fun l84 => (field_Cells.l2.m K x0 xs l84))) else none) else none)
def field_Cells.m (K : Nat) (x0 : api_Screen) (x1 : Int) : Option (List Int) :=
  ((field_Begin.m K x0 x1).bind fun t27 => (letJ (α := Bool → Option (List Int)) (fun (x29 : Bool) => (bif x29 then ((field_Cells.l1.m K x0 K 0 []).bind fun x38 => (some x38)) else ((field_round.m x0 t27 1).bind fun t56 => ((field_Cells.l2.m K x0 t56 []).bind fun x71 => (some x71))))) fun (j30 : Bool → Option (List Int)) => (if t27 < 0 then (j30 true) else (j30 false))))

theorem field_Cells.calls {B I : Gh} {h : Heap} {K : Nat} {x0 : api_Screen} {x1 : Int} {a21 : Option Addr} {p22 : Nat} {n23 : Nat} {r : (List Int)} (H : field_Cells.m K x0 x1 = some r)  :
    Fc Tryd.prog 31 #[.agg #[.int .i64 x0.Rows, .int .i64 x0.Cols, .slice a21 n23 p22, .int .i64 x0.Cursor, .bool x0.Locked, .bool x0.Insert], .int .i64 x1] [rR t_api_Cell .b a21 p22 n23 x0.Cells] B I h (fun v L => ∃ (a90 : Option Addr) (p91 : Nat) (n92 : Nat), v = .slice a90 n92 p91 ∧ L = [rO (tInt .i64) .i a90 p91 n92 r]) := by
 refine fc_of fun E hs => ?_
 unfold field_Cells.m at H
 obtain rfl := hs.nR d0
 refine fn_rangeW1 (args := [.agg #[.int .i64 x0.Rows, .int .i64 x0.Cols, .slice a21 x0.Cells.length p22, .int .i64 x0.Cursor, .bool x0.Locked, .bool x0.Insert], .int .i64 x1]) (rs := [.tmp 4]) (N := 41) [_, _, _, _] Tryd.func31 rfl rfl rfl rfl ?_
 refine st 1 [] (k_op (nB hs [.int .i64 x0.Rows, .int .i64 x0.Cols, .slice a21 x0.Cells.length p22, .int .i64 x0.Cursor, .bool x0.Locked, .bool x0.Insert] ?_))
 intro b25 h hs
 refine st 3 [] (k_op (nA hs [.slice none 0 0] (.slice none 0 0) ?_))
 intro b26 h hs
 refine st 2 [] (k_op (lN (hs.bl d1) 0 6 ?_))
 obtain ⟨hk, bk⟩ := hs.call tk0 (.c (qB d2) .n)
 refine st 1 [] (k_call H (fun _ m => field_Begin.calls m hk) ?_)
 rintro t27 _ h H ⟨I, _, ⟨rfl, rfl⟩, hk⟩
 replace hs := bk hk ct0 rfl
 refine st 3 [] ?_
 obtain ⟨j30, e89, H⟩ := letJ_some H
 refine k_join (fun ρ h => ∃ (x29 : Bool) (I : Gh), j30 x29 = some r ∧ Fits [(2, .pointer (some ⟨b25, 0, none⟩)), (5, .pointer (some ⟨b26, 0, none⟩)), (6, .int .i64 t27), (13, .bool x29)] ρ ∧ St E [rR t_api_Cell .b a21 p22 x0.Cells.length x0.Cells, rB b25 [.int .i64 x0.Rows, .int .i64 x0.Cols, .slice a21 x0.Cells.length p22, .int .i64 x0.Cursor, .bool x0.Locked, .bool x0.Insert] 31, rB b26 [.slice none 0 0] 70] I h) ?_ ?_
 ·refine st 2 [] (k_ite H (fun c28 H => ?_) (fun c28 H => ?_))
  ·refine st 1 [] ?_
   exact k_end ⟨true, I, H, ⟨by kernel_rfl, by kernel_rfl, by kernel_rfl, by kernel_rfl, trivial⟩, hs.pk (.c d2 (.c d1 (.c d0 .n)))⟩
  ·refine st 1 [] ?_
   exact k_end ⟨false, I, H, ⟨by kernel_rfl, by kernel_rfl, by kernel_rfl, by kernel_rfl, trivial⟩, hs.pk (.c d2 (.c d1 (.c d0 .n)))⟩
 ·clear H
  rintro ρ h ⟨x29, I, H, hf, hs⟩
  refine k_fits _ hf ?_ rfl
  subst e89
  try dsimp only at H
  cases x29
  ·rw [cond_false] at H
   refine st 3 [false] (k_op (lN (hs.bl d1) 0 6 ?_))
   obtain ⟨hk, bk⟩ := hs.call tk0 .n
   refine st 1 [] (k_call H (fun _ m => field_round.calls (a21 := a21) (p22 := p22) (n23 := x0.Cells.length) m hk) ?_)
   rintro t56 _ h H ⟨I, _, ⟨b57, b58, b59, rfl, rfl, m60⟩, hk⟩
   replace hs := bk hk ct3 rfl
   refine st 1 [] ?_
   obtain ⟨s67, m68, HR69⟩ := bind_some H
   clear H
   obtain ⟨h66, eh66⟩ : ∃ h', h' = h := ⟨_, rfl⟩
   subst eh66
   refine k_loopW (range_st (p := 29) (enc := fun (x : Int) => .int .i64 x) (hs.pk (.c d3 (.c d3 (.f imON (.c d3 (.c d0 (.c d0 (.c d0 .n)))))))) (fun (pre : List Int) L => ∃ (rest : List Int), ∃ (x61 : List Int) (a62 : Option Addr) (p63 : Nat) (n64 : Nat), t56 = pre ++ rest ∧ (field_Cells.l2.m K x0 rest x61) = some s67 ∧ L = [rR t_api_Cell .b a21 p22 x0.Cells.length x0.Cells, rB b25 [.int .i64 x0.Rows, .int .i64 x0.Cols, .slice a21 x0.Cells.length p22, .int .i64 x0.Cursor, .bool x0.Locked, .bool x0.Insert] 31, rO (tInt .i64) .i a62 p63 n64 x61, rB b26 [.slice a62 n64 p63] 70, rB b57 [.int .i64 x0.Rows, .int .i64 x0.Cols, .slice a21 x0.Cells.length p22, .int .i64 x0.Cursor, .bool x0.Locked, .bool x0.Insert] 31, rB b58 [.int .i64 t27] 3, rB b59 [.int .i64 1] 3]) (mkY (fun _ => False) (fun i L => i = 2 ∧ ∃ (x71 : List Int) (a72 : Option Addr) (p73 : Nat) (n74 : Nat), x71 = s67 ∧ L = [rO (tInt .i64) .i a72 p73 n74 x71, rB b26 [.slice a72 n74 p73] 70])) ⟨t56, [], none, 0, 0, rfl, m68, rfl⟩ (by kernel_rfl) (enters_of Tryd.func51 rfl (by kernel_rfl)) (field_round.iter (a := a21) (p := p22) (n := x0.Cells.length) (b1 := b57) (b2 := b58) (b3 := b59) m60) ?_ (fun x => [(8, .int .i64 x), (29, .int .i64 x)]) ?_ rfl ?_) ?_ ?_ ?_
   ·rintro o pre L I h' ⟨rest, x61, a62, p63, n64, _, _, rfl⟩ hs
    exact ⟨(hs.bl d5).seg_ 0 6 (Nat.le_of_ble_eq_true rfl), (hs.bl d5).cell (off := 2) rfl, (hs.bl d6).cell (off := 0) rfl, (hs.bl d7).cell (off := 0) rfl, ⟨_, hs.bdG (k := .b), hs.rd d1⟩, rfl⟩
   ·intro x Q h' q
    refine st 3 [] ?_
    exact k_fin2 q
   ·rintro o pre x70 rest' L I h hx' ⟨rest, x61, a62, p63, n64, hx, H, rfl⟩ hs
    obtain rfl : rest = x70 :: rest' := List.append_cancel_left (hx.symm.trans hx')
    clear hx'
    obtain ⟨rest, erest⟩ : ∃ r, r = rest' := ⟨_, rfl⟩
    subst erest
    rw [field_Cells.l2.m] at H
    obtain rfl := hs.nO d3
    refine st 5 [] (k_op (lB (hs.bl d2) 2 rfl ?_))
    obtain ⟨c76, H⟩ := guard_pos H
    obtain ⟨c77, H⟩ := guard_pos H
    refine st 1 [] (k_val (elemPtr a21 (x70.toNat * 6)) (pI (e := 66) (ik := .i64) (hs.sR d1) c76 c77) ?_)
    refine k_val (elemPtr a21 (x70.toNat * 6 + 0)) (pF (off := 0) (hs.sR d1) c76 c77) ?_
    obtain ⟨y79, g78, q80⟩ := (hs.sR d1).toSl.seg c76 c77
    obtain rfl := t_api_Cell.open_ q80
    refine k_op (lC (seg_cell (f := 0) g78 rfl) ?_)
    refine k_spl H (fun c81 H => ?_) (fun c81 H => ?_)
    ·refine st 2 [true] ?_
     refine k_out rfl ?_
     obtain rfl := Option.some.inj H
     exact ⟨_, I, ⟨rfl, x61, a62, p63, x61.length, rfl, rfl⟩, hs.pk (.c d0 (.c d2 (.c d2 .n)))⟩
    ·refine st 4 [false] (k_op (lB (hs.bl d4) 0 rfl ?_))
     refine st 1 [] (k_op (nS (e := 3) hs .i (tInt .i64) ([x70] : List Int) [.int .i64 x70] 1 (.int .i64 0) (Reps.int (I := (Cl.G .i E.B I)) (k := .i64) (l := [x70])) ?_))
     intro b82 h hs
     replace hs := (hs.f d4)
     obtain ⟨l84, m85, H⟩ := bind_some H
     refine k_op (aO (e := 3) (bytes := 8) hs (hs.sO d1) m85 ?_)
     intro a86 p87 h hs
     refine k_op (sB (v := .slice a86 l84.length p87) (hs.f d5) cw0 ?_)
     intro h hs
     refine st 2 [] ?_
     refine k_fin ?_
     exact ⟨_, I, ⟨rest, l84, a86, p87, l84.length, by simp [hx], H, rfl⟩, hs.pk (.c d3 (.c d3 (.c d3 (.c d1 (.c d0 (.c d1 (.c d1 (.c d1 .n))))))))⟩
   ·intro h2 hk
    have key : ∃ (x71 : List Int) (a72 : Option Addr) (p73 : Nat) (n74 : Nat), ∃ (o : Obj) (I : Gh), x71 = s67 ∧ St E (rQ h66.size (h66.size + 1) o :: [rO (tInt .i64) .i a72 p73 n74 x71, rB b26 [.slice a72 n74 p73] 70]) I h2 := by
      rcases hk with ⟨o, L, I, ⟨rest, x61, a62, p63, n64, hx, H, rfl⟩, hs⟩ | ⟨o, L, I, hy, hs⟩
      · obtain rfl : rest = [] := List.append_cancel_left (hx.symm.trans (List.append_nil _).symm)
        rw [field_Cells.l2.m] at H
        obtain rfl := Option.some.inj H
        obtain rfl := hs.nO d3
        exact ⟨x61, a62, p63, x61.length, o, I, rfl, hs.pk (.c d0 (.c d2 (.c d2 .n)))⟩
      · obtain ⟨_, x71, a72, p73, n74, rfl, rfl⟩ := hy
        exact ⟨x71, a72, p73, n74, o, I, rfl, hs⟩
    obtain ⟨x71, a72, p73, n74, o, I, rfl, hs⟩ := key
    have H := HR69
    try dsimp only at H
    obtain rfl := hs.nO d1
    refine st 2 [] (k_op (lB (hs.bl d2) 0 rfl ?_))
    refine st 2 [] ?_
    refine k_retQ (krM ?_)
    obtain rfl := Option.some.inj H
    refine ⟨(hs.rqD d0).1, ?_⟩
    replace hs := hs.rqe
    exact ⟨_, by kernel_rfl, I, _, ⟨a72, p73, x71.length, rfl, rfl⟩, hs.pk (.c d0 .n)⟩
   ·rintro h2 ⟨o, L, I, hy, hs⟩
    exact hy.elim
   ·rintro i L ⟨rfl, _⟩
    rfl
  ·rw [cond_true] at H
   refine st 5 [true] (k_op (lB (hs.bl d1) 2 rfl ?_))
   refine st 4 [] ?_
   obtain ⟨s37, m44, HR43⟩ := bind_some H
   refine k_loop 0 (fun k' ρ h => ∃ (x31 : Int) (x32 : List Int) (a33 : Option Addr) (p34 : Nat) (n35 : Nat) (I : Gh), field_Cells.l1.m K x0 k' x31 x32 = some s37 ∧ Fits [(5, .pointer (some ⟨b26, 0, none⟩)), (16, .int .i64 (x0.Cells.length : Int)), (17, .int .i64 x31)] ρ ∧ St E [rO (tInt .i64) .i a33 p34 n35 x32, rB b26 [.slice a33 n35 p34] 70] I h) (fun ρ h => ∃ (x38 : List Int) (a39 : Option Addr) (p40 : Nat) (n41 : Nat) (I : Gh), x38 = s37 ∧ Fits [(5, .pointer (some ⟨b26, 0, none⟩))] ρ ∧ St E [rO (tInt .i64) .i a39 p40 n41 x38, rB b26 [.slice a39 n41 p40] 70] I h) K ⟨0, [], none, 0, 0, I, m44, ⟨by kernel_rfl, by kernel_rfl, by kernel_rfl, trivial⟩, hs.pk (.f imON (.c d2 .n))⟩ ?_ rfl ?_
   ·clear HR43 m44 H
    rintro k' ρ h ⟨x31, x32, a33, p34, n35, I, H, hf, hs⟩
    cases k' with
    | zero => cases H
    | succ k =>
     rw [field_Cells.l1.m] at H
     refine k_fits _ hf ?_ rfl
     obtain rfl := hs.nO d0
     refine st 1 [] ?_
     obtain ⟨j47, e55, H⟩ := letJ_some H
     refine k_join (fun ρ h => ∃ (x46 : Bool) (I : Gh), j47 x46 = some s37 ∧ Fits [(5, .pointer (some ⟨b26, 0, none⟩)), (16, .int .i64 (x0.Cells.length : Int)), (17, .int .i64 x31), (18, .bool x46)] ρ ∧ St E [rO (tInt .i64) .i a33 p34 x32.length x32, rB b26 [.slice a33 x32.length p34] 70] I h) ?_ ?_
     ·refine st 1 [] (k_ite H (fun c45 H => ?_) (fun c45 H => ?_))
      ·refine st 1 [] ?_
       exact k_end ⟨true, I, H, ⟨by kernel_rfl, by kernel_rfl, by kernel_rfl, by kernel_rfl, trivial⟩, hs.pk (.c d0 (.c d0 .n))⟩
      ·refine st 1 [] ?_
       exact k_end ⟨false, I, H, ⟨by kernel_rfl, by kernel_rfl, by kernel_rfl, by kernel_rfl, trivial⟩, hs.pk (.c d0 (.c d0 .n))⟩
     ·clear H
      rintro ρ h ⟨x46, I, H, hf, hs⟩
      refine k_fits _ hf ?_ rfl
      subst e55
      try dsimp only at H
      cases x46
      ·rw [cond_false] at H
       refine st 2 [false] ?_
       refine k_out rfl ?_
       obtain rfl := Option.some.inj H
       exact xE ⟨x32, a33, p34, x32.length, I, rfl, ⟨by kernel_rfl, trivial⟩, hs.pk (.c d0 (.c d0 .n))⟩
      ·rw [cond_true] at H
       refine st 11 [true] (k_op (lB (hs.bl d1) 0 rfl ?_))
       refine st 1 [] (k_op (nS (e := 3) hs .i (tInt .i64) ([x31] : List Int) [.int .i64 x31] 1 (.int .i64 0) (Reps.int (I := (Cl.G .i E.B I)) (k := .i64) (l := [x31])) ?_))
       intro b48 h hs
       replace hs := (hs.f d1)
       obtain ⟨l50, m51, H⟩ := bind_some H
       refine k_op (aO (e := 3) (bytes := 8) hs (hs.sO d1) m51 ?_)
       intro a52 p53 h hs
       refine k_op (sB (v := .slice a52 l50.length p53) (hs.f d2) cw0 ?_)
       intro h hs
       refine st 6 [] ?_
       exact k_endL ⟨k, Nat.lt_succ_self _, (w64 (x31 + 1)), l50, a52, p53, l50.length, I, H, ⟨by kernel_rfl, by kernel_rfl, by kernel_rfl, trivial⟩, hs.pk (.c d1 (.c d0 .n))⟩
   ·rintro ρ h ⟨x38, a39, p40, n41, I, rfl, hf, hs⟩
    have H := HR43
    try dsimp only at H
    refine k_fits _ hf ?_ rfl
    obtain rfl := hs.nO d0
    refine st 2 [] (k_op (lB (hs.bl d1) 0 rfl ?_))
    refine st 2 [] ?_
    refine k_retQ (krF ?_)
    obtain rfl := Option.some.inj H
    exact ⟨_, by kernel_rfl, I, _, ⟨a39, p40, x38.length, rfl, rfl⟩, hs.pk (.c d0 .n)⟩

/-! shutter/read.Modified -/
def read_Modified.l1.m (K : Nat) (x0 : api_Screen) (t48 : (List Int)) : Nat → Int → Int → Int → (List api_Entry) → Option (Int × Int × (List api_Entry))
  | 0, _, _, _, _ => none
  | k + 1, x53, x54, x55, x56 => (letJ (α := Bool → Option (Int × Int × (List api_Entry))) (fun (x72 : Bool) => (bif x72 then (if 0 ≤ x53 then (if x53 < (t48.length : Int) then (letJ (α := Bool → Option (Int × Int × (List api_Entry))) (fun (x82 : Bool) => (bif x82 then ((grid_On.m x0 (at_ t48 x53) 1).bind fun t84 => ((field_Cells.m K x0 (at_ t48 x53)).bind fun t85 => ((read_letters.m K x0 t85).bind fun t90 => ((app x56 [(⟨t84, t90⟩ : api_Entry)]).bind fun l97 => (read_Modified.l1.m K x0 t48 k (w64 (x53 + 1)) x54 x55 l97))))) else (read_Modified.l1.m K x0 t48 k (w64 (x53 + 1)) x54 x55 x56))) fun (j83 : Bool → Option (Int × Int × (List api_Entry))) => (if 0 ≤ (at_ t48 x53) then (if (at_ t48 x53) < (x0.Cells.length : Int) then (bif ((at_ x0.Cells (at_ t48 x53)).Attr).Modified then (j83 true) else (j83 false)) else none) else none)) else none) else none) else (some ((x54, x55, x56))))) fun (j73 : Bool → Option (Int × Int × (List api_Entry))) => (if x53 < (t48.length : Int) then (j73 true) else (j73 false)))
def read_Modified.m (K : Nat) (x0 : api_Screen) (x1 : Int) : Option (api_In × GoErr) :=
  (letJ (α := Bool → Option (api_In × GoErr)) (fun (x28 : Bool) => (bif x28 then (some ((⟨0, 0, []⟩ : api_In), (GoErr.no 3))) else ((attr_Bare.m x1).bind fun t30 => bif t30 then (some ((⟨x1, 0, []⟩ : api_In), GoErr.nil)) else (letJ (α := Bool → Option (api_In × GoErr)) (fun (x33 : Bool) => (bif x33 then ((field_Cells.m K x0 0).bind fun t35 => ((read_letters.m K x0 t35).bind fun t40 => (if (t40.length : Int) > 0 then (some ((⟨x1, x0.Cursor, [(⟨(-1), t40⟩ : api_Entry)]⟩ : api_In), GoErr.nil)) else (some ((⟨x1, x0.Cursor, []⟩ : api_In), GoErr.nil))))) else ((field_Begins.m K x0).bind fun t48 => ((read_Modified.l1.m K x0 t48 K 0 x1 x0.Cursor []).bind fun (x62, x63, x64) => (some ((⟨x62, x63, x64⟩ : api_In), GoErr.nil)))))) fun (j34 : Bool → Option (api_In × GoErr)) => ((field_Formatted.m K x0).bind fun t32 => bif t32 then (j34 false) else (j34 true)))))) fun (j29 : Bool → Option (api_In × GoErr)) => ((attr_Aid.m x1).bind fun t27 => bif t27 then (j29 false) else (j29 true)))

theorem read_Modified.calls {B I : Gh} {h : Heap} {K : Nat} {x0 : api_Screen} {x1 : Int} {a21 : Option Addr} {p22 : Nat} {n23 : Nat} {r : (api_In × GoErr)} (H : read_Modified.m K x0 x1 = some r)  :
    Fc Tryd.prog 13 #[.agg #[.int .i64 x0.Rows, .int .i64 x0.Cols, .slice a21 n23 p22, .int .i64 x0.Cursor, .bool x0.Locked, .bool x0.Insert], .int .u8 x1] [rR t_api_Cell .b a21 p22 n23 x0.Cells] B I h (fun v L => ∃ (a106 : Option Addr) (p107 : Nat) (n108 : Nat) (v110 : Value), v = .tuple #[.agg #[.int .u8 r.1.Aid, .int .i64 r.1.Cursor, .slice a106 n108 p107], v110] ∧ L = [rO t_api_Entry .i a106 p107 n108 r.1.Fields, rE .i v110 r.2]) := by
 refine fc_of fun E hs => ?_
 unfold read_Modified.m at H
 obtain rfl := hs.nR d0
 refine fn_of2 (args := [.agg #[.int .i64 x0.Rows, .int .i64 x0.Cols, .slice a21 x0.Cells.length p22, .int .i64 x0.Cursor, .bool x0.Locked, .bool x0.Insert], .int .u8 x1]) (rs := [.cell 4 42, .tmp 5]) (N := 70) Tryd.func13 rfl rfl rfl rfl ?_
 refine st 2 [] (k_op (nB hs [.int .i64 x0.Rows, .int .i64 x0.Cols, .slice a21 x0.Cells.length p22, .int .i64 x0.Cursor, .bool x0.Locked, .bool x0.Insert] ?_))
 intro b25 h hs
 refine k_op (nA hs [.int .u8 0, .int .i64 0, .slice none 0 0] (.agg #[.int .u8 0, .int .i64 0, .slice none 0 0]) ?_)
 intro b26 h hs
 refine st 5 [] ?_
 obtain ⟨j29, e105, H⟩ := letJ_some H
 refine k_join (fun ρ h => ∃ (x28 : Bool) (I : Gh), j29 x28 = some r ∧ Fits [(1, .int .u8 x1), (2, .pointer (some ⟨b25, 0, none⟩)), (4, .pointer (some ⟨b26, 0, none⟩)), (10, .bool x28)] ρ ∧ St E [rR t_api_Cell .b a21 p22 x0.Cells.length x0.Cells, rB b25 [.int .i64 x0.Rows, .int .i64 x0.Cols, .slice a21 x0.Cells.length p22, .int .i64 x0.Cursor, .bool x0.Locked, .bool x0.Insert] 31, rB b26 [.int .u8 0, .int .i64 0, .slice none 0 0] 42] I h) ?_ ?_
 ·refine st 2 [] (k_call H (fun _ m => attr_Aid.calls m) ?_)
  rintro t27 _ _ H ⟨rfl, rfl⟩
  cases t27
  ·rw [cond_false] at H
   refine st 3 [] ?_
   exact k_end ⟨true, I, H, ⟨by kernel_rfl, by kernel_rfl, by kernel_rfl, by kernel_rfl, trivial⟩, hs.pk (.c d2 (.c d1 (.c d0 .n)))⟩
  ·rw [cond_true] at H
   refine st 3 [] ?_
   exact k_end ⟨false, I, H, ⟨by kernel_rfl, by kernel_rfl, by kernel_rfl, by kernel_rfl, trivial⟩, hs.pk (.c d2 (.c d1 (.c d0 .n)))⟩
 ·clear H
  rintro ρ h ⟨x28, I, H, hf, hs⟩
  refine k_fits _ hf ?_ rfl
  subst e105
  try dsimp only at H
  cases x28
  ·rw [cond_false] at H
   refine st 4 [false] (k_call H (fun _ m => attr_Bare.calls m) ?_)
   rintro t30 _ _ H ⟨rfl, rfl⟩
   cases t30
   ·rw [cond_false] at H
    refine st 9 [false] (k_op (lB (hs.bl d1) 3 rfl ?_))
    refine st 1 [] (k_op (nA hs [.int .u8 0, .int .i64 0, .slice none 0 0] (.agg #[.int .u8 0, .int .i64 0, .slice none 0 0]) ?_))
    intro b31 h hs
    refine k_op (sN hs 0 [.int .u8 x1, .int .i64 x0.Cursor, .slice none 0 0] [.int .u8 x1, .int .i64 x0.Cursor, .slice none 0 0] (ones_of rfl) ?_)
    intro h hs
    refine st 3 [] ?_
    obtain ⟨j34, e104, H⟩ := letJ_some H
    refine k_join (fun ρ h => ∃ (x33 : Bool) (I : Gh), j34 x33 = some r ∧ Fits [(2, .pointer (some ⟨b25, 0, none⟩)), (4, .pointer (some ⟨b26, 0, none⟩)), (6, .pointer (some ⟨b31, 0, none⟩)), (27, .bool x33)] ρ ∧ St E [rR t_api_Cell .b a21 p22 x0.Cells.length x0.Cells, rB b25 [.int .i64 x0.Rows, .int .i64 x0.Cols, .slice a21 x0.Cells.length p22, .int .i64 x0.Cursor, .bool x0.Locked, .bool x0.Insert] 31, rB b26 [.int .u8 0, .int .i64 0, .slice none 0 0] 42, rB b31 [.int .u8 x1, .int .i64 x0.Cursor, .slice none 0 0] 42] I h) ?_ ?_
    ·refine st 1 [] (k_op (lN (hs.bl d2) 0 6 ?_))
     obtain ⟨hk, bk⟩ := hs.call tk0 (.c (qB d1) .n)
     refine k_call H (fun _ m => field_Formatted.calls m hk) ?_
     rintro t32 _ h H ⟨I, _, ⟨rfl, rfl⟩, hk⟩
     replace hs := bk hk ct0 rfl
     cases t32
     ·rw [cond_false] at H
      refine st 2 [] ?_
      exact k_end ⟨true, I, H, ⟨by kernel_rfl, by kernel_rfl, by kernel_rfl, by kernel_rfl, trivial⟩, hs.pk (.c d1 (.c d1 (.c d1 (.c d0 .n))))⟩
     ·rw [cond_true] at H
      refine st 2 [] ?_
      exact k_end ⟨false, I, H, ⟨by kernel_rfl, by kernel_rfl, by kernel_rfl, by kernel_rfl, trivial⟩, hs.pk (.c d1 (.c d1 (.c d1 (.c d0 .n))))⟩
    ·clear H
     rintro ρ h ⟨x33, I, H, hf, hs⟩
     refine k_fits _ hf ?_ rfl
     subst e104
     try dsimp only at H
     cases x33
     ·rw [cond_false] at H
      refine st 5 [false] (k_op (lN (hs.bl d1) 0 6 ?_))
      obtain ⟨hk, bk⟩ := hs.call tk0 (.c (qB d0) .n)
      refine k_call H (fun _ m => field_Begins.calls m hk) ?_
      rintro t48 _ h H ⟨I, _, ⟨a49, p50, n51, rfl, rfl⟩, hk⟩
      replace hs := bk hk ct1 rfl
      obtain rfl := hs.nO d0
      refine st 4 [] ?_
      obtain ⟨s61, m70, HR69⟩ := bind_some H
      refine k_loop 1 (fun k' ρ h => ∃ (x53 : Int) (x54 : Int) (x55 : Int) (x56 : List api_Entry) (a57 : Option Addr) (p58 : Nat) (n59 : Nat) (I : Gh), read_Modified.l1.m K x0 t48 k' x53 x54 x55 x56 = some s61 ∧ Fits [(2, .pointer (some ⟨b25, 0, none⟩)), (4, .pointer (some ⟨b26, 0, none⟩)), (6, .pointer (some ⟨b31, 0, none⟩)), (41, .slice a49 t48.length p50), (42, .int .i64 (t48.length : Int)), (43, .int .i64 x53)] ρ ∧ St E [rO (tInt .i64) .i a49 p50 t48.length t48, rR t_api_Cell .b a21 p22 x0.Cells.length x0.Cells, rB b25 [.int .i64 x0.Rows, .int .i64 x0.Cols, .slice a21 x0.Cells.length p22, .int .i64 x0.Cursor, .bool x0.Locked, .bool x0.Insert] 31, rB b26 [.int .u8 0, .int .i64 0, .slice none 0 0] 42, rO t_api_Entry .i a57 p58 n59 x56, rB b31 [.int .u8 x54, .int .i64 x55, .slice a57 n59 p58] 42] I h) (fun ρ h => ∃ (x62 : Int) (x63 : Int) (x64 : List api_Entry) (a65 : Option Addr) (p66 : Nat) (n67 : Nat) (I : Gh), (x62, x63, x64) = s61 ∧ Fits [(4, .pointer (some ⟨b26, 0, none⟩)), (6, .pointer (some ⟨b31, 0, none⟩))] ρ ∧ St E [rB b26 [.int .u8 0, .int .i64 0, .slice none 0 0] 42, rO t_api_Entry .i a65 p66 n67 x64, rB b31 [.int .u8 x62, .int .i64 x63, .slice a65 n67 p66] 42] I h) K ⟨0, x1, x0.Cursor, [], none, 0, 0, I, m70, ⟨by kernel_rfl, by kernel_rfl, by kernel_rfl, by kernel_rfl, by kernel_rfl, by kernel_rfl, trivial⟩, hs.pk (.c d0 (.c d0 (.c d0 (.c d0 (.f imON (.c d0 .n))))))⟩ ?_ rfl ?_
      ·clear HR69 m70 H
       rintro k' ρ h ⟨x53, x54, x55, x56, a57, p58, n59, I, H, hf, hs⟩
       cases k' with
       | zero => cases H
       | succ k =>
        rw [read_Modified.l1.m] at H
        refine k_fits _ hf ?_ rfl
        obtain rfl := hs.nO d4
        refine st 1 [] ?_
        obtain ⟨j73, e103, H⟩ := letJ_some H
        refine k_join (fun ρ h => ∃ (x72 : Bool) (I : Gh), j73 x72 = some s61 ∧ Fits [(2, .pointer (some ⟨b25, 0, none⟩)), (4, .pointer (some ⟨b26, 0, none⟩)), (6, .pointer (some ⟨b31, 0, none⟩)), (41, .slice a49 t48.length p50), (42, .int .i64 (t48.length : Int)), (43, .int .i64 x53), (44, .bool x72)] ρ ∧ St E [rO (tInt .i64) .i a49 p50 t48.length t48, rR t_api_Cell .b a21 p22 x0.Cells.length x0.Cells, rB b25 [.int .i64 x0.Rows, .int .i64 x0.Cols, .slice a21 x0.Cells.length p22, .int .i64 x0.Cursor, .bool x0.Locked, .bool x0.Insert] 31, rB b26 [.int .u8 0, .int .i64 0, .slice none 0 0] 42, rO t_api_Entry .i a57 p58 x56.length x56, rB b31 [.int .u8 x54, .int .i64 x55, .slice a57 x56.length p58] 42] I h) ?_ ?_
        ·refine st 1 [] (k_ite H (fun c71 H => ?_) (fun c71 H => ?_))
         ·refine st 1 [] ?_
          exact k_end ⟨true, I, H, ⟨by kernel_rfl, by kernel_rfl, by kernel_rfl, by kernel_rfl, by kernel_rfl, by kernel_rfl, by kernel_rfl, trivial⟩, hs.pk (.c d0 (.c d0 (.c d0 (.c d0 (.c d0 (.c d0 .n))))))⟩
         ·refine st 1 [] ?_
          exact k_end ⟨false, I, H, ⟨by kernel_rfl, by kernel_rfl, by kernel_rfl, by kernel_rfl, by kernel_rfl, by kernel_rfl, by kernel_rfl, trivial⟩, hs.pk (.c d0 (.c d0 (.c d0 (.c d0 (.c d0 (.c d0 .n))))))⟩
        ·clear H
         rintro ρ h ⟨x72, I, H, hf, hs⟩
         refine k_fits _ hf ?_ rfl
         subst e103
         try dsimp only at H
         cases x72
         ·rw [cond_false] at H
          refine st 2 [false] ?_
          refine k_out rfl ?_
          obtain rfl := Option.some.inj H
          exact xE ⟨x54, x55, x56, a57, p58, x56.length, I, rfl, ⟨by kernel_rfl, by kernel_rfl, trivial⟩, hs.pk (.c d3 (.c d3 (.c d3 .n)))⟩
         ·rw [cond_true] at H
          obtain ⟨c74, H⟩ := guard_pos H
          obtain ⟨c75, H⟩ := guard_pos H
          refine st 7 [true] (k_val (elemPtr a49 (x53.toNat * 1)) (pI (e := 3) (ik := .i64) (hs.sO d0) c74 c75) ?_)
          refine k_op (lC ((hs.sO d0).cell1 c74 c75) ?_)
          refine st 3 [] ?_
          obtain ⟨j83, e102, H⟩ := letJ_some H
          refine k_join (fun ρ h => ∃ (x82 : Bool) (I : Gh), j83 x82 = some s61 ∧ Fits [(2, .pointer (some ⟨b25, 0, none⟩)), (4, .pointer (some ⟨b26, 0, none⟩)), (6, .pointer (some ⟨b31, 0, none⟩)), (9, .int .i64 (at_ t48 x53)), (41, .slice a49 t48.length p50), (42, .int .i64 (t48.length : Int)), (43, .int .i64 x53), (53, .bool x82)] ρ ∧ St E [rO (tInt .i64) .i a49 p50 t48.length t48, rR t_api_Cell .b a21 p22 x0.Cells.length x0.Cells, rB b25 [.int .i64 x0.Rows, .int .i64 x0.Cols, .slice a21 x0.Cells.length p22, .int .i64 x0.Cursor, .bool x0.Locked, .bool x0.Insert] 31, rB b26 [.int .u8 0, .int .i64 0, .slice none 0 0] 42, rO t_api_Entry .i a57 p58 x56.length x56, rB b31 [.int .u8 x54, .int .i64 x55, .slice a57 x56.length p58] 42] I h) ?_ ?_
          ·refine st 2 [] (k_op (lB (hs.bl d2) 2 rfl ?_))
           obtain ⟨c76, H⟩ := guard_pos H
           obtain ⟨c77, H⟩ := guard_pos H
           refine st 1 [] (k_val (elemPtr a21 ((at_ t48 x53).toNat * 6)) (pI (e := 66) (ik := .i64) (hs.sR d1) c76 c77) ?_)
           refine k_val (elemPtr a21 ((at_ t48 x53).toNat * 6 + 1)) (pF (off := 1) (hs.sR d1) c76 c77) ?_
           refine k_val (elemPtr a21 ((at_ t48 x53).toNat * 6 + 1 + 3)) (pF (off := 3) (hs.sR d1) c76 c77) ?_
           obtain ⟨y79, g78, q80⟩ := (hs.sR d1).toSl.seg c76 c77
           obtain rfl := t_api_Cell.open_ q80
           refine k_op (lC (seg_cell (f := 4) g78 rfl) ?_)
           refine k_spl H (fun c81 H => ?_) (fun c81 H => ?_)
           ·refine st 1 [] ?_
            exact k_end ⟨true, I, H, ⟨by kernel_rfl, by kernel_rfl, by kernel_rfl, by kernel_rfl, by kernel_rfl, by kernel_rfl, by kernel_rfl, by kernel_rfl, trivial⟩, hs.pk (.c d0 (.c d0 (.c d0 (.c d0 (.c d0 (.c d0 .n))))))⟩
           ·refine st 1 [] ?_
            exact k_end ⟨false, I, H, ⟨by kernel_rfl, by kernel_rfl, by kernel_rfl, by kernel_rfl, by kernel_rfl, by kernel_rfl, by kernel_rfl, by kernel_rfl, trivial⟩, hs.pk (.c d0 (.c d0 (.c d0 (.c d0 (.c d0 (.c d0 .n))))))⟩
          ·clear H
           rintro ρ h ⟨x82, I, H, hf, hs⟩
           refine k_fits _ hf ?_ rfl
           subst e102
           try dsimp only at H
           cases x82
           ·rw [cond_false] at H
            refine st 7 [false] ?_
            exact k_endL ⟨k, Nat.lt_succ_self _, (w64 (x53 + 1)), x54, x55, x56, a57, p58, x56.length, I, H, ⟨by kernel_rfl, by kernel_rfl, by kernel_rfl, by kernel_rfl, by kernel_rfl, by kernel_rfl, trivial⟩, hs.pk (.c d0 (.c d0 (.c d0 (.c d0 (.c d0 (.c d0 .n))))))⟩
           ·rw [cond_true] at H
            refine st 1 [true] ?_
            obtain ⟨hs0, bk0⟩ := hs.call tk0 (.c (qL d5) (.c (qL d2) (.c (qB d1) .n)))
            have hs := hs0
            refine k_regD hs0 12 ?_
            refine aRun [0] 14 hs.keep ?_
            refine aL 1 rfl hs.keep (ll hs0 d0 (n := 2) rfl) (nmL hs0 d0) ?_
            refine aG 2 rfl hs.keep (lls hs0 d1 0 6 rfl) (nmL hs0 d1) ?_
            refine aRun [3] 11 hs.keep ?_
            refine aG 5 rfl hs.keep (lls hs0 d1 0 6 rfl) (nmL hs0 d1) ?_
            refine aG 6 rfl hs.keep (lls hs0 d1 0 6 rfl) (nmL hs0 d1) ?_
            refine aRun [7] 8 hs.keep ?_
            obtain ⟨hk, bk⟩ := hs.call tk0 (.c (qB d2) .n)
            refine aO1 4 rfl (o_call H (fun _ m => grid_On.calls m hk) ?_)
            rintro t84 _ h H ⟨I, _, ⟨rfl, rfl⟩, hk⟩
            replace hs := bk hk ct0 rfl
            refine ⟨hs.keep, ?_⟩
            obtain ⟨hk, bk⟩ := hs.call tk0 (.c (qB d2) .n)
            refine aO1 8 rfl (o_call H (fun _ m => field_Cells.calls m hk) ?_)
            rintro t85 _ h H ⟨I, _, ⟨a86, p87, n88, rfl, rfl⟩, hk⟩
            replace hs := bk hk ct1 rfl
            obtain rfl := hs.nO d0
            refine ⟨hs.keep, ?_⟩
            obtain ⟨hk, bk⟩ := hs.call tk0 (.c (qB d3) (.c (qO d0) .n))
            refine aO1 9 rfl (o_call H (fun _ m => read_letters.calls m hk) ?_)
            rintro t90 _ h H ⟨I, _, ⟨a91, p92, n93, rfl, rfl⟩, hk⟩
            replace hs := bk hk ct1 rfl
            obtain rfl := hs.nO d0
            refine ⟨hs.keep, ?_⟩
            obtain ⟨I, hs⟩ := hs.fO
            refine aRun [10] 4 hs.keep ?_
            refine aO1 11 rfl (nS (e := 48) hs .i t_api_Entry ([(⟨t84, t90⟩ : api_Entry)] : List api_Entry) [.int .i64 t84, .slice a91 t90.length p92] 2 (.agg #[.int .i64 0, .slice none 0 0]) (Reps.cons (T := t_api_Entry) (c := [.int .i64 t84, .slice a91 t90.length p92]) (x := (⟨t84, t90⟩ : api_Entry)) ⟨_, _, _, rfl, (hs.g d0)⟩ (.nil : Reps t_api_Entry (Cl.G .i E.B I) h [] [])) ?_)
            intro b95 h hs
            refine ⟨hs.keep, ?_⟩
            replace hs := hs.pk (.c d0 (.c d0 (.c d0 .n)))
            replace hs := bk0 hs ct3 rfl
            replace hs := (hs.f d7)
            obtain ⟨l97, m98, H⟩ := bind_some H
            refine aOL 12 rfl (aO (e := 48) (bytes := 32) hs (hs.sO d1) m98 ?_)
            intro a99 p100 h hs
            refine aOL 13 rfl (owp_pure (.pointer (some ⟨b31, 2, none⟩)) (by kernel_rfl) ?_)
            refine aOL 14 rfl (sB (v := .slice a99 l97.length p100) (hs.f d8) cw2 ?_)
            intro h hs
            refine aEnd ?_
            refine st 5 [] ?_
            exact k_endL ⟨k, Nat.lt_succ_self _, (w64 (x53 + 1)), x54, x55, l97, a99, p100, l97.length, I, H, ⟨by kernel_rfl, by kernel_rfl, by kernel_rfl, by kernel_rfl, by kernel_rfl, by kernel_rfl, trivial⟩, hs.pk (.c d5 (.c d5 (.c d5 (.c d5 (.c d1 (.c d0 .n))))))⟩
      ·rintro ρ h ⟨x62, x63, x64, a65, p66, n67, I, rfl, hf, hs⟩
       have H := HR69
       try dsimp only at H
       refine k_fits _ hf ?_ rfl
       obtain rfl := hs.nO d1
       refine st 2 [] (k_op (lN (hs.bl d2) 0 3 ?_))
       refine k_op (sN hs 0 [.int .u8 x62, .int .i64 x63, .slice a65 x64.length p66] [.int .u8 x62, .int .i64 x63, .slice a65 x64.length p66] (ones_of rfl) ?_)
       intro h hs
       refine st 2 [] ?_
       refine k_retQ ?_
       obtain rfl := Option.some.inj H
       exact ⟨[.agg #[.int .u8 x62, .int .i64 x63, .slice a65 x64.length p66], .nilIface], (.cons (.agg (by kernel_rfl) (by kernel_rfl) (by kernel_rfl) ((hs.bl d0).seg_ 0 3 (Nat.le_of_ble_eq_true rfl))) (.cons (.tmp (by kernel_rfl)) .nil)), I, _, ⟨a65, p66, x64.length, (.nilIface), rfl, rfl⟩, hs.pk (.c d1 (.f imEN .n))⟩
     ·rw [cond_true] at H
      refine st 3 [true] ?_
      obtain ⟨hs0, bk0⟩ := hs.call tk0 (.c (qL d1) (.c (qB d0) .n))
      have hs := hs0
      refine k_regD hs0 5 ?_
      refine aG 0 rfl hs.keep (lls hs0 d0 0 6 rfl) (nmL hs0 d0) ?_
      refine aG 1 rfl hs.keep (lls hs0 d0 0 6 rfl) (nmL hs0 d0) ?_
      obtain ⟨hk, bk⟩ := hs.call tk0 (.c (qB d1) .n)
      refine aO1 2 rfl (o_call H (fun _ m => field_Cells.calls m hk) ?_)
      rintro t35 _ h H ⟨I, _, ⟨a36, p37, n38, rfl, rfl⟩, hk⟩
      replace hs := bk hk ct1 rfl
      obtain rfl := hs.nO d0
      refine ⟨hs.keep, ?_⟩
      obtain ⟨hk, bk⟩ := hs.call tk0 (.c (qB d2) (.c (qO d0) .n))
      refine aO1 3 rfl (o_call H (fun _ m => read_letters.calls m hk) ?_)
      rintro t40 _ h H ⟨I, _, ⟨a41, p42, n43, rfl, rfl⟩, hk⟩
      replace hs := bk hk ct1 rfl
      obtain rfl := hs.nO d0
      refine ⟨hs.keep, ?_⟩
      refine aRun [4] 0 hs.keep ?_
      replace hs := hs.pk (.c d0 (.c d0 .n))
      replace hs := bk0 hs ct2 rfl
      refine aEnd ?_
      refine st 4 [] (k_ite H (fun c45 H => ?_) (fun c45 H => ?_))
      ·obtain ⟨I, hs⟩ := hs.fO
       refine st 5 [true] (k_op (nS (e := 48) hs .i t_api_Entry ([(⟨(-1), t40⟩ : api_Entry)] : List api_Entry) [.int .i64 (-1), .slice a41 t40.length p42] 2 (.agg #[.int .i64 0, .slice none 0 0]) (Reps.cons (T := t_api_Entry) (c := [.int .i64 (-1), .slice a41 t40.length p42]) (x := (⟨(-1), t40⟩ : api_Entry)) ⟨_, _, _, rfl, (hs.g d0)⟩ (.nil : Reps t_api_Entry (Cl.G .i E.B I) h [] [])) ?_))
       intro b46 h hs
       refine st 1 [] (k_op (sB (v := .slice (some ⟨b46, 0, none⟩) 1 1) (hs.f d6) cw2 ?_))
       intro h hs
       refine st 3 [] (k_op (lN (hs.bl d0) 0 3 ?_))
       refine k_op (sN (hs.f d6) 0 [.int .u8 x1, .int .i64 x0.Cursor, .slice (some ⟨b46, 0, none⟩) 1 1] [.int .u8 x1, .int .i64 x0.Cursor, .slice (some ⟨b46, 0, none⟩) 1 1] (ones_of rfl) ?_)
       intro h hs
       refine st 2 [] ?_
       refine k_retQ ?_
       obtain rfl := Option.some.inj H
       exact ⟨[.agg #[.int .u8 x1, .int .i64 x0.Cursor, .slice (some ⟨b46, 0, none⟩) 1 1], .nilIface], (.cons (.agg (by kernel_rfl) (by kernel_rfl) (by kernel_rfl) ((hs.bl d0).seg_ 0 3 (Nat.le_of_ble_eq_true rfl))) (.cons (.tmp (by kernel_rfl)) .nil)), I, _, ⟨(some ⟨b46, 0, none⟩), 1, 1, (.nilIface), rfl, rfl⟩, hs.pk (.c d2 (.f imEN .n))⟩
      ·refine st 5 [false] (k_op (lN (hs.bl d5) 0 3 ?_))
       refine k_op (sN (hs.f d4) 0 [.int .u8 x1, .int .i64 x0.Cursor, .slice none 0 0] [.int .u8 x1, .int .i64 x0.Cursor, .slice none 0 0] (ones_of rfl) ?_)
       intro h hs
       refine st 2 [] ?_
       refine k_retQ ?_
       obtain rfl := Option.some.inj H
       exact ⟨[.agg #[.int .u8 x1, .int .i64 x0.Cursor, .slice none 0 0], .nilIface], (.cons (.agg (by kernel_rfl) (by kernel_rfl) (by kernel_rfl) ((hs.bl d0).seg_ 0 3 (Nat.le_of_ble_eq_true rfl))) (.cons (.tmp (by kernel_rfl)) .nil)), I, _, ⟨none, 0, 0, (.nilIface), rfl, rfl⟩, hs.pk (.f imON (.f imEN .n))⟩
   ·rw [cond_true] at H
    refine st 7 [true] (k_op (sN (hs.f d2) 0 [.int .u8 x1, .int .i64 0, .slice none 0 0] [.int .u8 x1, .int .i64 0, .slice none 0 0] (ones_of rfl) ?_))
    intro h hs
    refine st 2 [] ?_
    refine k_retQ ?_
    obtain rfl := Option.some.inj H
    exact ⟨[.agg #[.int .u8 x1, .int .i64 0, .slice none 0 0], .nilIface], (.cons (.agg (by kernel_rfl) (by kernel_rfl) (by kernel_rfl) ((hs.bl d0).seg_ 0 3 (Nat.le_of_ble_eq_true rfl))) (.cons (.tmp (by kernel_rfl)) .nil)), I, _, ⟨none, 0, 0, (.nilIface), rfl, rfl⟩, hs.pk (.f imON (.f imEN .n))⟩
  ·rw [cond_true] at H
   refine st 5 [true] (k_op (sN (hs.f d2) 0 [.int .u8 0, .int .i64 0, .slice none 0 0] [.int .u8 0, .int .i64 0, .slice none 0 0] (ones_of rfl) ?_))
   intro h hs
   refine st 2 [] ?_
   refine k_retQ ?_
   obtain rfl := Option.some.inj H
   exact ⟨[.agg #[.int .u8 0, .int .i64 0, .slice none 0 0], .iface 64 (.int .i64 3)], (.cons (.agg (by kernel_rfl) (by kernel_rfl) (by kernel_rfl) ((hs.bl d0).seg_ 0 3 (Nat.le_of_ble_eq_true rfl))) (.cons (.tmp (by kernel_rfl)) .nil)), I, _, ⟨none, 0, 0, (.iface 64 (.int .i64 3)), rfl, rfl⟩, hs.pk (.f imON (.f imEC .n))⟩

/-! shutter/shutterlaw18.awake -/
def shutterlaw18_awake.m (K : Nat)  : Option Bool :=
  ((read_Modified.m K (⟨1, 3, [(⟨true, (⟨false, false, 0, true⟩ : api_Attr), 0⟩ : api_Cell), (⟨false, (⟨false, false, 0, false⟩ : api_Attr), 193⟩ : api_Cell), (⟨false, (⟨false, false, 0, false⟩ : api_Attr), 0⟩ : api_Cell)], 2, false, false⟩ : api_Screen) 125).bind fun t24 => ((read_Image.m K (⟨1, 3, [(⟨true, (⟨false, false, 0, true⟩ : api_Attr), 0⟩ : api_Cell), (⟨false, (⟨false, false, 0, false⟩ : api_Attr), 193⟩ : api_Cell), (⟨false, (⟨false, false, 0, false⟩ : api_Attr), 0⟩ : api_Cell)], 2, false, false⟩ : api_Screen)).bind fun t32 => ((read_Modified.m K (⟨1, 3, [(⟨true, (⟨false, false, 0, true⟩ : api_Attr), 0⟩ : api_Cell), (⟨false, (⟨false, false, 0, false⟩ : api_Attr), 193⟩ : api_Cell), (⟨false, (⟨false, false, 0, false⟩ : api_Attr), 0⟩ : api_Cell)], 2, false, false⟩ : api_Screen) 96).bind fun t37 => (if t24.2 = GoErr.nil then (if t24.1.Cursor = 2 then (if (t24.1.Fields.length : Int) = 1 then (if 0 < (t24.1.Fields.length : Int) then (if (at_ t24.1.Fields 0).Addr = 1 then (if (((at_ t24.1.Fields 0).Text).length : Int) = 1 then (if (t32.length : Int) = 5 then ((api_Code.m t37.2).bind fun t62 => (some (t62 == 3))) else (some false)) else (some false)) else (some false)) else none) else (some false)) else (some false)) else (some false)))))

theorem shutterlaw18_awake.calls {B I : Gh} {h : Heap} {K : Nat} {r : Bool} (H : shutterlaw18_awake.m K = some r)  :
    Fc Tryd.prog 9 #[] [rG] B I h (fun v L => v = .bool r ∧ L = []) := by
 refine fc_of fun E hs => ?_
 unfold shutterlaw18_awake.m at H
 refine fn_of (args := []) (rs := [.tmp 0]) (N := 65) Tryd.func9 rfl rfl rfl rfl ?_
 refine st 10 [] (k_op (nS (e := 66) hs .i t_api_Cell ([(⟨true, (⟨false, false, 0, true⟩ : api_Attr), 0⟩ : api_Cell), (⟨false, (⟨false, false, 0, false⟩ : api_Attr), 193⟩ : api_Cell), (⟨false, (⟨false, false, 0, false⟩ : api_Attr), 0⟩ : api_Cell)] : List api_Cell) [.bool true, .bool false, .bool false, .int .i64 0, .bool true, .int .u8 0, .bool false, .bool false, .bool false, .int .i64 0, .bool false, .int .u8 193, .bool false, .bool false, .bool false, .int .i64 0, .bool false, .int .u8 0] 6 (.agg #[.bool false, .bool false, .bool false, .int .i64 0, .bool false, .int .u8 0]) (Reps.cons (T := t_api_Cell) (c := [.bool true, .bool false, .bool false, .int .i64 0, .bool true, .int .u8 0]) (x := (⟨true, (⟨false, false, 0, true⟩ : api_Attr), 0⟩ : api_Cell)) rfl (Reps.cons (T := t_api_Cell) (c := [.bool false, .bool false, .bool false, .int .i64 0, .bool false, .int .u8 193]) (x := (⟨false, (⟨false, false, 0, false⟩ : api_Attr), 193⟩ : api_Cell)) rfl (Reps.cons (T := t_api_Cell) (c := [.bool false, .bool false, .bool false, .int .i64 0, .bool false, .int .u8 0]) (x := (⟨false, (⟨false, false, 0, false⟩ : api_Attr), 0⟩ : api_Cell)) rfl (.nil : Reps t_api_Cell (Cl.G .i E.B I) h [] [])))) ?_))
 intro b21 h hs
 refine st 1 [] (k_op (nA hs [.int .i64 0, .int .i64 0, .slice none 0 0, .int .i64 0, .bool false, .bool false] (.agg #[.int .i64 0, .int .i64 0, .slice none 0 0, .int .i64 0, .bool false, .bool false]) ?_))
 intro b23 h hs
 refine k_op (sN hs 0 [.int .i64 1, .int .i64 3, .slice (some ⟨b21, 0, none⟩) 3 3, .int .i64 2, .bool false, .bool false] [.int .i64 1, .int .i64 3, .slice (some ⟨b21, 0, none⟩) 3 3, .int .i64 2, .bool false, .bool false] (ones_of rfl) ?_)
 intro h hs
 refine st 3 [] (k_op (lN (hs.bl d0) 0 6 ?_))
 obtain ⟨hk, bk⟩ := hs.call tk0 (.c (qO d1) .n)
 refine k_call H (fun _ m => read_Modified.calls m hk) ?_
 rintro t24 _ h H ⟨I, _, ⟨a25, p26, n27, v29, rfl, rfl⟩, hk⟩
 replace hs := bk hk ct2 rfl
 obtain rfl := hs.nO d0
 refine st 3 [] (k_op (nA hs [.int .u8 0, .int .i64 0, .slice none 0 0] (.agg #[.int .u8 0, .int .i64 0, .slice none 0 0]) ?_))
 intro b31 h hs
 refine k_op (sN hs 0 [.int .u8 t24.1.Aid, .int .i64 t24.1.Cursor, .slice a25 t24.1.Fields.length p26] [.int .u8 t24.1.Aid, .int .i64 t24.1.Cursor, .slice a25 t24.1.Fields.length p26] (ones_of rfl) ?_)
 intro h hs
 refine st 4 [] (k_op (lN (hs.bl d3) 0 6 ?_))
 obtain ⟨hk, bk⟩ := hs.call tk0 (.c (qO d4) .n)
 refine k_call H (fun _ m => read_Image.calls m hk) ?_
 rintro t32 _ h H ⟨I, _, ⟨a33, p34, n35, rfl, rfl⟩, hk⟩
 replace hs := bk hk ct1 rfl
 obtain rfl := hs.nO d0
 refine st 4 [] (k_op (lN (hs.bl d4) 0 6 ?_))
 obtain ⟨hk, bk⟩ := hs.call tk0 (.c (qO d5) .n)
 refine k_call H (fun _ m => read_Modified.calls m hk) ?_
 rintro t37 _ h H ⟨I, _, ⟨a38, p39, n40, v42, rfl, rfl⟩, hk⟩
 replace hs := bk hk ct2 rfl
 obtain rfl := hs.nO d0
 refine st 3 [] (k_op (nA hs [.int .u8 0, .int .i64 0, .slice none 0 0] (.agg #[.int .u8 0, .int .i64 0, .slice none 0 0]) ?_))
 intro b44 h hs
 refine k_op (sN hs 0 [.int .u8 t37.1.Aid, .int .i64 t37.1.Cursor, .slice a38 t37.1.Fields.length p39] [.int .u8 t37.1.Aid, .int .i64 t37.1.Cursor, .slice a38 t37.1.Fields.length p39] (ones_of rfl) ?_)
 intro h hs
 rcases (hs.er d6).cases with ⟨c45, rfl⟩ | ⟨c45, t46, u47, rfl⟩
 ·rw [if_pos c45] at H
  refine st 8 [] (k_op (lB (hs.bl d4) 1 rfl ?_))
  refine k_ite H (fun c48 H => ?_) (fun c48 H => ?_)
  ·refine st 3 [] (k_op (lB (hs.bl d4) 2 rfl ?_))
   refine st 1 [] (k_ite H (fun c49 H => ?_) (fun c49 H => ?_))
   ·refine st 3 [] (k_op (lB (hs.bl d4) 2 rfl ?_))
    obtain ⟨c50, H⟩ := guard_pos H
    refine k_val (elemPtr a25 ((0 : Int).toNat * 2)) (pI (e := 48) (ik := .i64) (hs.sO d5) (by decide) c50) ?_
    refine k_val (elemPtr a25 ((0 : Int).toNat * 2 + 0)) (pF (off := 0) (hs.sO d5) (by decide) c50) ?_
    obtain ⟨y52, g51, q53⟩ := (hs.sO d5).toSl.seg (by decide) c50
    obtain ⟨a54, p55, n56, rfl, q58⟩ := t_api_Entry.open_ q53
    obtain rfl := q58.2
    replace hs := hs.pR q58
    refine k_op (lC (seg_cell (f := 0) g51 rfl) ?_)
    refine k_ite H (fun c59 H => ?_) (fun c59 H => ?_)
    ·refine st 3 [] (k_op (lB (hs.bl d5) 2 rfl ?_))
     refine k_val (elemPtr a25 ((0 : Int).toNat * 2)) (pI (e := 48) (ik := .i64) (hs.sO d6) (by decide) c50) ?_
     refine k_val (elemPtr a25 ((0 : Int).toNat * 2 + 1)) (pF (off := 1) (hs.sO d6) (by decide) c50) ?_
     refine k_op (lC (seg_cell (f := 1) g51 rfl) ?_)
     refine st 1 [] (k_ite H (fun c60 H => ?_) (fun c60 H => ?_))
     ·refine st 4 [] (k_ite H (fun c61 H => ?_) (fun c61 H => ?_))
      ·obtain ⟨hk, bk⟩ := hs.call tk0 (.c (xI d3) (.c (gK d10) .n))
       refine st 3 [] (k_call H (fun _ m => api_Code.calls m hk) ?_)
       rintro t62 _ h H ⟨I, _, ⟨rfl, rfl⟩, hk⟩
       replace hs := bk hk ct0 rfl
       refine st 4 [] ?_
       refine k_retQ ?_
       obtain rfl := Option.some.inj H
       exact ⟨_, by kernel_rfl, I, _, ⟨rfl, rfl⟩, hs.pk .n⟩
      ·refine st 8 [] ?_
       refine k_retQ ?_
       obtain rfl := Option.some.inj H
       exact ⟨_, by kernel_rfl, I, _, ⟨rfl, rfl⟩, hs.pk .n⟩
     ·refine st 13 [] ?_
      refine k_retQ ?_
      obtain rfl := Option.some.inj H
      exact ⟨_, by kernel_rfl, I, _, ⟨rfl, rfl⟩, hs.pk .n⟩
    ·refine st 22 [] ?_
     refine k_retQ ?_
     obtain rfl := Option.some.inj H
     exact ⟨_, by kernel_rfl, I, _, ⟨rfl, rfl⟩, hs.pk .n⟩
   ·refine st 30 [] ?_
    refine k_retQ ?_
    obtain rfl := Option.some.inj H
    exact ⟨_, by kernel_rfl, I, _, ⟨rfl, rfl⟩, hs.pk .n⟩
  ·refine st 36 [] ?_
   refine k_retQ ?_
   obtain rfl := Option.some.inj H
   exact ⟨_, by kernel_rfl, I, _, ⟨rfl, rfl⟩, hs.pk .n⟩
 ·rw [if_neg c45] at H
  refine st 46 [] ?_
  refine k_retQ ?_
  obtain rfl := Option.some.inj H
  exact ⟨_, by kernel_rfl, I, _, ⟨rfl, rfl⟩, hs.pk .n⟩

/-! shutter/shutterref05.Char -/
def shutterref05_Char.m (x0 : Int) : Option Bool :=
  (if x0 = 0 then (some true) else (if x0 = 28 then (some true) else (if x0 = 30 then (some true) else (if x0 ≥ 64 then (some (decide (x0 ≤ 254))) else (some false)))))

theorem shutterref05_Char.calls {x0 : Int} {h : Heap} {r : Bool} (H : shutterref05_Char.m x0 = some r)   :
    Ret Tryd.prog 49 #[.int .u8 x0] h (fun v h' => .bool r = v ∧ h' = h) := by
 unfold shutterref05_Char.m at H
 refine fn_of (args := [.int .u8 x0]) (rs := [.tmp 2]) (N := 21) Tryd.func49 rfl rfl rfl rfl ?_
 refine st 7 [] (k_ite H (fun c21 H => ?_) (fun c21 H => ?_))
 ·refine st 18 [] ?_
  refine k_retQ ?_
  obtain rfl := Option.some.inj H
  exact ⟨_, by kernel_rfl, rfl, rfl⟩
 ·refine st 2 [] (k_ite H (fun c22 H => ?_) (fun c22 H => ?_))
  ·refine st 15 [] ?_
   refine k_retQ ?_
   obtain rfl := Option.some.inj H
   exact ⟨_, by kernel_rfl, rfl, rfl⟩
  ·refine st 3 [] (k_ite H (fun c23 H => ?_) (fun c23 H => ?_))
   ·refine st 11 [] ?_
    refine k_retQ ?_
    obtain rfl := Option.some.inj H
    exact ⟨_, by kernel_rfl, rfl, rfl⟩
   ·refine st 3 [] (k_ite H (fun c24 H => ?_) (fun c24 H => ?_))
    ·refine st 7 [] ?_
     refine k_retQ ?_
     obtain rfl := Option.some.inj H
     exact ⟨_, by kernel_rfl, rfl, rfl⟩
    ·refine st 7 [] ?_
     refine k_retQ ?_
     obtain rfl := Option.some.inj H
     exact ⟨_, by kernel_rfl, rfl, rfl⟩

/-! shutter/shutterref10.Cell -/
def shutterref10_Cell.m (x0 : api_Cell) : Option Bool :=
  (letJ (α := Bool → Option Bool) (fun (x23 : Bool) => (bif x23 then (if x0.Char = 0 then (if x0.Attr.Show ≥ 0 then (some (decide (x0.Attr.Show ≤ 3))) else (some false)) else (some false)) else (bif ((x0.Attr.Protected == false) && ((x0.Attr.Numeric == false) && ((x0.Attr.Show == 0) && ((x0.Attr.Modified == false) && true)))) then ((shutterref05_Char.m x0.Char).bind fun t28 => (some t28)) else (some false)))) fun (j24 : Bool → Option Bool) => (bif x0.Field then (j24 true) else (j24 false)))

theorem shutterref10_Cell.calls {B I : Gh} {h : Heap} {x0 : api_Cell} {r : Bool} (H : shutterref10_Cell.m x0 = some r)  :
    Fc Tryd.prog 40 #[.agg #[.bool x0.Field, .bool x0.Attr.Protected, .bool x0.Attr.Numeric, .int .i64 x0.Attr.Show, .bool x0.Attr.Modified, .int .u8 x0.Char]] [] B I h (fun v L => v = .bool r ∧ L = []) := by
 refine fc_of fun E hs => ?_
 unfold shutterref10_Cell.m at H
 refine fn_of (args := [.agg #[.bool x0.Field, .bool x0.Attr.Protected, .bool x0.Attr.Numeric, .int .i64 x0.Attr.Show, .bool x0.Attr.Modified, .int .u8 x0.Char]]) (rs := [.tmp 2]) (N := 29) Tryd.func40 rfl rfl rfl rfl ?_
 refine st 2 [] (k_op (nB hs [.bool x0.Field, .bool x0.Attr.Protected, .bool x0.Attr.Numeric, .int .i64 x0.Attr.Show, .bool x0.Attr.Modified, .int .u8 x0.Char] ?_))
 intro b21 h hs
 refine st 4 [] ?_
 obtain ⟨j24, e29, H⟩ := letJ_some H
 refine k_join (fun ρ h => ∃ (x23 : Bool) (I : Gh), j24 x23 = some r ∧ Fits [(1, .pointer (some ⟨b21, 0, none⟩)), (4, .bool x23)] ρ ∧ St E [rB b21 [.bool x0.Field, .bool x0.Attr.Protected, .bool x0.Attr.Numeric, .int .i64 x0.Attr.Show, .bool x0.Attr.Modified, .int .u8 x0.Char] 66] I h) ?_ ?_
 ·refine st 2 [] (k_op (lB (hs.bl d0) 0 rfl ?_))
  refine k_spl H (fun c22 H => ?_) (fun c22 H => ?_)
  ·refine st 1 [] ?_
   exact k_end ⟨true, I, H, ⟨by kernel_rfl, by kernel_rfl, trivial⟩, hs.pk (.c d0 .n)⟩
  ·refine st 1 [] ?_
   exact k_end ⟨false, I, H, ⟨by kernel_rfl, by kernel_rfl, trivial⟩, hs.pk (.c d0 .n)⟩
 ·clear H
  rintro ρ h ⟨x23, I, H, hf, hs⟩
  refine k_fits _ hf ?_ rfl
  subst e29
  try dsimp only at H
  cases x23
  ·rw [cond_false] at H
   refine st 5 [false] (k_op (lN (hs.bl d0) 1 4 ?_))
   rcases bool_or ((x0.Attr.Protected == false) && ((x0.Attr.Numeric == false) && ((x0.Attr.Show == 0) && ((x0.Attr.Modified == false) && true)))) with c27 | c27
   ·replace H := bif_f c27 H
    refine st 1 [] (k_op (owp_run (.bool false) (run_bool (run_eqAgg (xs := #[.bool x0.Attr.Protected, .bool x0.Attr.Numeric, .int .i64 x0.Attr.Show, .bool x0.Attr.Modified]) (ys := #[.bool false, .bool false, .int .i64 0, .bool false]) (by kernel_rfl) (by kernel_rfl) (by kernel_rfl) (eqB_run (b := ((x0.Attr.Protected == false) && ((x0.Attr.Numeric == false) && ((x0.Attr.Show == 0) && ((x0.Attr.Modified == false) && true))))) (by kernel_rfl))) c27) ?_))
    refine st 7 [] ?_
    refine k_retQ ?_
    obtain rfl := Option.some.inj H
    exact ⟨_, by kernel_rfl, I, _, ⟨rfl, rfl⟩, hs.pk .n⟩
   ·replace H := bif_t c27 H
    refine st 1 [] (k_op (owp_run (.bool true) (run_bool (run_eqAgg (xs := #[.bool x0.Attr.Protected, .bool x0.Attr.Numeric, .int .i64 x0.Attr.Show, .bool x0.Attr.Modified]) (ys := #[.bool false, .bool false, .int .i64 0, .bool false]) (by kernel_rfl) (by kernel_rfl) (by kernel_rfl) (eqB_run (b := ((x0.Attr.Protected == false) && ((x0.Attr.Numeric == false) && ((x0.Attr.Show == 0) && ((x0.Attr.Modified == false) && true))))) (by kernel_rfl))) c27) ?_))
    refine st 2 [] (k_op (lB (hs.bl d0) 5 rfl ?_))
    refine k_call H (fun _ m => shutterref05_Char.calls m) ?_
    rintro t28 _ _ H ⟨rfl, rfl⟩
    refine st 3 [] ?_
    refine k_retQ ?_
    obtain rfl := Option.some.inj H
    exact ⟨_, by kernel_rfl, I, _, ⟨rfl, rfl⟩, hs.pk .n⟩
  ·rw [cond_true] at H
   refine st 4 [true] (k_op (lB (hs.bl d0) 5 rfl ?_))
   refine k_ite H (fun c25 H => ?_) (fun c25 H => ?_)
   ·refine st 3 [] (k_op (lB (hs.bl d0) 3 rfl ?_))
    refine k_ite H (fun c26 H => ?_) (fun c26 H => ?_)
    ·refine st 4 [] (k_op (lB (hs.bl d0) 3 rfl ?_))
     refine st 4 [] ?_
     refine k_retQ ?_
     obtain rfl := Option.some.inj H
     exact ⟨_, by kernel_rfl, I, _, ⟨rfl, rfl⟩, hs.pk .n⟩
    ·refine st 9 [] ?_
     refine k_retQ ?_
     obtain rfl := Option.some.inj H
     exact ⟨_, by kernel_rfl, I, _, ⟨rfl, rfl⟩, hs.pk .n⟩
   ·refine st 14 [] ?_
    refine k_retQ ?_
    obtain rfl := Option.some.inj H
    exact ⟨_, by kernel_rfl, I, _, ⟨rfl, rfl⟩, hs.pk .n⟩

/-! shutter/shutterref10.Sized -/
def shutterref10_Sized.m (x0 : Int) (x1 : Int) : Option Bool :=
  (if x0 ≥ 1 then (if x1 ≥ 1 then (if x0 ≤ 16383 then (if x1 ≤ 16383 then (some (decide ((w64 (x0 * x1)) ≤ 16383))) else (some false)) else (some false)) else (some false)) else (some false))

theorem shutterref10_Sized.calls {x0 : Int} {x1 : Int} {h : Heap} {r : Bool} (H : shutterref10_Sized.m x0 x1 = some r)   :
    Ret Tryd.prog 39 #[.int .i64 x0, .int .i64 x1] h (fun v h' => .bool r = v ∧ h' = h) := by
 unfold shutterref10_Sized.m at H
 refine fn_of (args := [.int .i64 x0, .int .i64 x1]) (rs := [.tmp 4]) (N := 25) Tryd.func39 rfl rfl rfl rfl ?_
 refine st 7 [] (k_ite H (fun c21 H => ?_) (fun c21 H => ?_))
 ·refine st 2 [] (k_ite H (fun c22 H => ?_) (fun c22 H => ?_))
  ·refine st 3 [] (k_ite H (fun c23 H => ?_) (fun c23 H => ?_))
   ·refine st 3 [] (k_ite H (fun c24 H => ?_) (fun c24 H => ?_))
    ·refine st 9 [] ?_
     refine k_retQ ?_
     obtain rfl := Option.some.inj H
     exact ⟨_, by kernel_rfl, rfl, rfl⟩
    ·refine st 9 [] ?_
     refine k_retQ ?_
     obtain rfl := Option.some.inj H
     exact ⟨_, by kernel_rfl, rfl, rfl⟩
   ·refine st 13 [] ?_
    refine k_retQ ?_
    obtain rfl := Option.some.inj H
    exact ⟨_, by kernel_rfl, rfl, rfl⟩
  ·refine st 17 [] ?_
   refine k_retQ ?_
   obtain rfl := Option.some.inj H
   exact ⟨_, by kernel_rfl, rfl, rfl⟩
 ·refine st 20 [] ?_
  refine k_retQ ?_
  obtain rfl := Option.some.inj H
  exact ⟨_, by kernel_rfl, rfl, rfl⟩

/-! shutter/shutterref10.Right -/
def shutterref10_Right.l1.m (K : Nat) (x0 : api_Screen) : Nat → Int → Option (Bool ⊕ (Unit))
  | 0, _ => none
  | k + 1, x30 => (if x30 < (x0.Cells.length : Int) then (if 0 ≤ x30 then ((shutterref10_Cell.m (⟨(at_ x0.Cells x30).Field, ((at_ x0.Cells x30).Attr), (at_ x0.Cells x30).Char⟩ : api_Cell)).bind fun t39 => bif t39 then (shutterref10_Right.l1.m K x0 k (w64 (x30 + 1))) else (some (Sum.inl false))) else none) else (some (Sum.inr ())))
def shutterref10_Right.m (K : Nat) (x0 : api_Screen) : Option Bool :=
  ((shutterref10_Sized.m x0.Rows x0.Cols).bind fun t26 => bif t26 then (if (x0.Cells.length : Int) = (w64 (x0.Rows * x0.Cols)) then (if x0.Cursor < 0 then (some false) else (if x0.Cursor ≥ (x0.Cells.length : Int) then (some false) else ((shutterref10_Right.l1.m K x0 K 0).bind fun s31 => match s31 with | .inl q => (some q) | .inr _ => (some true)))) else (some false)) else (some false))

theorem shutterref10_Right.calls {B I : Gh} {h : Heap} {K : Nat} {x0 : api_Screen} {a21 : Option Addr} {p22 : Nat} {n23 : Nat} {r : Bool} (H : shutterref10_Right.m K x0 = some r)  :
    Fc Tryd.prog 26 #[.agg #[.int .i64 x0.Rows, .int .i64 x0.Cols, .slice a21 n23 p22, .int .i64 x0.Cursor, .bool x0.Locked, .bool x0.Insert]] [rR t_api_Cell .b a21 p22 n23 x0.Cells] B I h (fun v L => v = .bool r ∧ L = []) := by
 refine fc_of fun E hs => ?_
 unfold shutterref10_Right.m at H
 obtain rfl := hs.nR d0
 refine fn_of (args := [.agg #[.int .i64 x0.Rows, .int .i64 x0.Cols, .slice a21 x0.Cells.length p22, .int .i64 x0.Cursor, .bool x0.Locked, .bool x0.Insert]]) (rs := [.tmp 2]) (N := 48) Tryd.func26 rfl rfl rfl rfl ?_
 refine st 2 [] (k_op (nB hs [.int .i64 x0.Rows, .int .i64 x0.Cols, .slice a21 x0.Cells.length p22, .int .i64 x0.Cursor, .bool x0.Locked, .bool x0.Insert] ?_))
 intro b25 h hs
 refine st 6 [] (k_op (lB (hs.bl d0) 0 rfl ?_))
 refine st 1 [] (k_op (lB (hs.bl d0) 1 rfl ?_))
 refine k_call H (fun _ m => shutterref10_Sized.calls m) ?_
 rintro t26 _ _ H ⟨rfl, rfl⟩
 cases t26
 ·rw [cond_false] at H
  refine st 31 [true] ?_
  refine k_retQ ?_
  obtain rfl := Option.some.inj H
  exact ⟨_, by kernel_rfl, I, _, ⟨rfl, rfl⟩, hs.pk .n⟩
 ·rw [cond_true] at H
  refine st 3 [] (k_op (lB (hs.bl d0) 2 rfl ?_))
  refine st 2 [] (k_op (lB (hs.bl d0) 0 rfl ?_))
  refine st 1 [] (k_op (lB (hs.bl d0) 1 rfl ?_))
  refine st 1 [] (k_iteN H (fun c27 H => ?_) (fun c27 H => ?_))
  ·refine st 3 [] (k_op (lB (hs.bl d0) 3 rfl ?_))
   refine k_ite H (fun c28 H => ?_) (fun c28 H => ?_)
   ·refine st 15 [true] ?_
    refine k_retQ ?_
    obtain rfl := Option.some.inj H
    exact ⟨_, by kernel_rfl, I, _, ⟨rfl, rfl⟩, hs.pk .n⟩
   ·refine st 3 [] (k_op (lB (hs.bl d0) 3 rfl ?_))
    refine st 1 [] (k_op (lB (hs.bl d0) 2 rfl ?_))
    refine st 1 [] (k_ite H (fun c29 H => ?_) (fun c29 H => ?_))
    ·refine st 7 [true] ?_
     refine k_retQ ?_
     obtain rfl := Option.some.inj H
     exact ⟨_, by kernel_rfl, I, _, ⟨rfl, rfl⟩, hs.pk .n⟩
    ·refine st 10 [false] ?_
     obtain ⟨s31, m33, HR32⟩ := bind_some H
     refine k_loop 0 (fun k' ρ h => ∃ (x30 : Int) (I : Gh), shutterref10_Right.l1.m K x0 k' x30 = some s31 ∧ Fits [(1, .pointer (some ⟨b25, 0, none⟩)), (3, .int .i64 x30)] ρ ∧ St E [rR t_api_Cell .b a21 p22 x0.Cells.length x0.Cells, rB b25 [.int .i64 x0.Rows, .int .i64 x0.Cols, .slice a21 x0.Cells.length p22, .int .i64 x0.Cursor, .bool x0.Locked, .bool x0.Insert] 31] I h) (fun ρ h => ∃ (I : Gh), Sum.inr () = s31 ∧ Fits [] ρ ∧ St E [] I h) K ⟨0, I, m33, ⟨by kernel_rfl, by kernel_rfl, trivial⟩, hs.pk (.c d1 (.c d0 .n))⟩ ?_ rfl ?_
     ·clear m33 H
      rintro k' ρ h ⟨x30, I, H, hf, hs⟩
      cases k' with
      | zero => cases H
      | succ k =>
       rw [shutterref10_Right.l1.m] at H
       refine k_fits _ hf ?_ rfl
       refine st 5 [] (k_op (lB (hs.bl d1) 2 rfl ?_))
       refine st 1 [] (k_ite H (fun c34 H => ?_) (fun c34 H => ?_))
       ·refine st 8 [true] (k_op (lB (hs.bl d1) 2 rfl ?_))
        obtain ⟨c35, H⟩ := guard_pos H
        refine st 1 [] (k_val (elemPtr a21 (x30.toNat * 6)) (pI (e := 66) (ik := .i64) (hs.sR d0) c35 c34) ?_)
        obtain ⟨y37, g36, q38⟩ := (hs.sR d0).toSl.seg c35 c34
        obtain rfl := t_api_Cell.open_ q38
        refine k_op (lG g36 ?_)
        obtain ⟨hk, bk⟩ := hs.call tk0 .n
        refine k_call H (fun _ m => shutterref10_Cell.calls m hk) ?_
        rintro t39 _ h H ⟨I, _, ⟨rfl, rfl⟩, hk⟩
        replace hs := bk hk ct0 rfl
        cases t39
        ·rw [cond_false] at H
         refine st 7 [true] ?_
         refine k_retQ (krL ?_)
         obtain rfl := Option.some.inj H
         obtain rfl := Option.some.inj HR32
         exact ⟨_, by kernel_rfl, I, _, ⟨rfl, rfl⟩, hs.pk .n⟩
        ·rw [cond_true] at H
         refine st 10 [false] ?_
         exact k_endL ⟨k, Nat.lt_succ_self _, (w64 (x30 + 1)), I, H, ⟨by kernel_rfl, by kernel_rfl, trivial⟩, hs.pk (.c d0 (.c d0 .n))⟩
       ·refine st 2 [false] ?_
        refine k_out rfl ?_
        obtain rfl := Option.some.inj H
        exact xE ⟨I, rfl, trivial, hs.pk .n⟩
     ·rintro ρ h ⟨I, rfl, hf, hs⟩
      have H := HR32
      try dsimp only at H
      refine k_fits _ hf ?_ rfl
      refine st 4 [] ?_
      refine k_retQ ?_
      obtain rfl := Option.some.inj H
      exact ⟨_, by kernel_rfl, I, _, ⟨rfl, rfl⟩, hs.pk .n⟩
  ·refine st 20 [true] ?_
   refine k_retQ ?_
   obtain rfl := Option.some.inj H
   exact ⟨_, by kernel_rfl, I, _, ⟨rfl, rfl⟩, hs.pk .n⟩

/-! shutter/shutterref10.Few -/
def shutterref10_Few.m (K : Nat) (x0 : api_Screen) : Option Bool :=
  (if (x0.Cells.length : Int) ≤ 200 then ((shutterref10_Right.m K x0).bind fun t27 => (some t27)) else (some false))

theorem shutterref10_Few.calls {B I : Gh} {h : Heap} {K : Nat} {x0 : api_Screen} {a21 : Option Addr} {p22 : Nat} {n23 : Nat} {r : Bool} (H : shutterref10_Few.m K x0 = some r)  :
    Fc Tryd.prog 10 #[.agg #[.int .i64 x0.Rows, .int .i64 x0.Cols, .slice a21 n23 p22, .int .i64 x0.Cursor, .bool x0.Locked, .bool x0.Insert]] [rR t_api_Cell .b a21 p22 n23 x0.Cells] B I h (fun v L => v = .bool r ∧ L = []) := by
 refine fc_of fun E hs => ?_
 unfold shutterref10_Few.m at H
 obtain rfl := hs.nR d0
 refine fn_of (args := [.agg #[.int .i64 x0.Rows, .int .i64 x0.Cols, .slice a21 x0.Cells.length p22, .int .i64 x0.Cursor, .bool x0.Locked, .bool x0.Insert]]) (rs := [.tmp 2]) (N := 11) Tryd.func10 rfl rfl rfl rfl ?_
 refine st 2 [] (k_op (nB hs [.int .i64 x0.Rows, .int .i64 x0.Cols, .slice a21 x0.Cells.length p22, .int .i64 x0.Cursor, .bool x0.Locked, .bool x0.Insert] ?_))
 intro b25 h hs
 refine st 5 [] (k_op (lB (hs.bl d0) 2 rfl ?_))
 refine st 1 [] (k_ite H (fun c26 H => ?_) (fun c26 H => ?_))
 ·refine st 1 [] (k_op (lN (hs.bl d0) 0 6 ?_))
  obtain ⟨hk, bk⟩ := hs.call tk0 (.c (qB d1) .n)
  refine k_call H (fun _ m => shutterref10_Right.calls m hk) ?_
  rintro t27 _ h H ⟨I, _, ⟨rfl, rfl⟩, hk⟩
  replace hs := bk hk ct0 rfl
  refine st 3 [] ?_
  refine k_retQ ?_
  obtain rfl := Option.some.inj H
  exact ⟨_, by kernel_rfl, I, _, ⟨rfl, rfl⟩, hs.pk .n⟩
 ·refine st 6 [] ?_
  refine k_retQ ?_
  obtain rfl := Option.some.inj H
  exact ⟨_, by kernel_rfl, I, _, ⟨rfl, rfl⟩, hs.pk .n⟩

/-! shutter/shutterref10.Copy -/
def shutterref10_Copy.m (x0 : api_Screen) : Option api_Screen :=
  ((app [] x0.Cells).bind fun l29 => (some (⟨x0.Rows, x0.Cols, l29, x0.Cursor, x0.Locked, x0.Insert⟩ : api_Screen)))

theorem shutterref10_Copy.calls {B I : Gh} {h : Heap} {x0 : api_Screen} {a21 : Option Addr} {p22 : Nat} {n23 : Nat} {r : api_Screen} (H : shutterref10_Copy.m x0 = some r)  :
    Fc Tryd.prog 11 #[.agg #[.int .i64 x0.Rows, .int .i64 x0.Cols, .slice a21 n23 p22, .int .i64 x0.Cursor, .bool x0.Locked, .bool x0.Insert]] [rR t_api_Cell .b a21 p22 n23 x0.Cells] B I h (fun v L => ∃ (a34 : Option Addr) (p35 : Nat) (n36 : Nat), v = .agg #[.int .i64 r.Rows, .int .i64 r.Cols, .slice a34 n36 p35, .int .i64 r.Cursor, .bool r.Locked, .bool r.Insert] ∧ L = [rO t_api_Cell .i a34 p35 n36 r.Cells]) := by
 refine fc_of fun E hs => ?_
 unfold shutterref10_Copy.m at H
 obtain rfl := hs.nR d0
 refine fn_of2 (args := [.agg #[.int .i64 x0.Rows, .int .i64 x0.Cols, .slice a21 x0.Cells.length p22, .int .i64 x0.Cursor, .bool x0.Locked, .bool x0.Insert]]) (rs := [.cell 2 31]) (N := 9) Tryd.func11 rfl rfl rfl rfl ?_
 refine st 2 [] (k_op (nB hs [.int .i64 x0.Rows, .int .i64 x0.Cols, .slice a21 x0.Cells.length p22, .int .i64 x0.Cursor, .bool x0.Locked, .bool x0.Insert] ?_))
 intro b25 h hs
 refine k_op (nA hs [.int .i64 0, .int .i64 0, .slice none 0 0, .int .i64 0, .bool false, .bool false] (.agg #[.int .i64 0, .int .i64 0, .slice none 0 0, .int .i64 0, .bool false, .bool false]) ?_)
 intro b26 h hs
 refine st 3 [] (k_op (nS (e := 66) hs .i t_api_Cell ([] : List api_Cell) [] 6 (.agg #[.bool false, .bool false, .bool false, .int .i64 0, .bool false, .int .u8 0]) (.nil : Reps t_api_Cell (Cl.G .i E.B I) h [] []) ?_))
 intro b27 h hs
 refine st 1 [] (k_op (lB (hs.bl d2) 2 rfl ?_))
 obtain ⟨l29, m30, H⟩ := bind_some H
 refine k_op (aO (e := 66) (bytes := 40) hs ((hs.sR d3).flat (fun r => r)) m30 ?_)
 intro a31 p32 h hs
 refine st 1 [] (k_op (sB (v := .slice a31 l29.length p32) (hs.f d2) cw2 ?_))
 intro h hs
 refine st 3 [] (k_op (lN (hs.bl d0) 0 6 ?_))
 refine k_op (sN (hs.f d2) 0 [.int .i64 x0.Rows, .int .i64 x0.Cols, .slice a31 l29.length p32, .int .i64 x0.Cursor, .bool x0.Locked, .bool x0.Insert] [.int .i64 x0.Rows, .int .i64 x0.Cols, .slice a31 l29.length p32, .int .i64 x0.Cursor, .bool x0.Locked, .bool x0.Insert] (ones_of rfl) ?_)
 intro h hs
 refine st 1 [] ?_
 refine k_retQ ?_
 obtain rfl := Option.some.inj H
 exact ⟨[.agg #[.int .i64 x0.Rows, .int .i64 x0.Cols, .slice a31 l29.length p32, .int .i64 x0.Cursor, .bool x0.Locked, .bool x0.Insert]], (.cons (.agg (by kernel_rfl) (by kernel_rfl) (by kernel_rfl) ((hs.bl d0).seg_ 0 6 (Nat.le_of_ble_eq_true rfl))) .nil), I, _, ⟨a31, p32, l29.length, rfl, rfl⟩, hs.pk (.c d2 .n)⟩

/-! shutter/shutterref10.Same -/
def shutterref10_Same.l1.m (K : Nat) (x0 : api_Screen) (x1 : api_Screen) : Nat → Int → Option (Bool ⊕ (Unit))
  | 0, _ => none
  | k + 1, x37 => (if x37 < (x0.Cells.length : Int) then (if 0 ≤ x37 then (if x37 < (x1.Cells.length : Int) then (bif (((at_ x0.Cells x37).Field == (at_ x1.Cells x37).Field) && (((((at_ x0.Cells x37).Attr).Protected == ((at_ x1.Cells x37).Attr).Protected) && ((((at_ x0.Cells x37).Attr).Numeric == ((at_ x1.Cells x37).Attr).Numeric) && ((((at_ x0.Cells x37).Attr).Show == ((at_ x1.Cells x37).Attr).Show) && ((((at_ x0.Cells x37).Attr).Modified == ((at_ x1.Cells x37).Attr).Modified) && true)))) && (((at_ x0.Cells x37).Char == (at_ x1.Cells x37).Char) && true))) then (shutterref10_Same.l1.m K x0 x1 k (w64 (x37 + 1))) else (some (Sum.inl false))) else none) else none) else (some (Sum.inr ())))
def shutterref10_Same.m (K : Nat) (x0 : api_Screen) (x1 : api_Screen) : Option Bool :=
  (if x0.Rows = x1.Rows then (if x0.Cols = x1.Cols then (if x0.Cursor = x1.Cursor then (bif (x0.Locked != x1.Locked) then (some false) else (bif (x0.Insert != x1.Insert) then (some false) else (if (x0.Cells.length : Int) = (x1.Cells.length : Int) then ((shutterref10_Same.l1.m K x0 x1 K 0).bind fun s38 => match s38 with | .inl q => (some q) | .inr _ => (some true)) else (some false)))) else (some false)) else (some false)) else (some false))

theorem shutterref10_Same.calls {B I : Gh} {h : Heap} {K : Nat} {x0 : api_Screen} {x1 : api_Screen} {a21 : Option Addr} {p22 : Nat} {n23 : Nat} {a25 : Option Addr} {p26 : Nat} {n27 : Nat} {r : Bool} (H : shutterref10_Same.m K x0 x1 = some r)  :
    Fc Tryd.prog 14 #[.agg #[.int .i64 x0.Rows, .int .i64 x0.Cols, .slice a21 n23 p22, .int .i64 x0.Cursor, .bool x0.Locked, .bool x0.Insert], .agg #[.int .i64 x1.Rows, .int .i64 x1.Cols, .slice a25 n27 p26, .int .i64 x1.Cursor, .bool x1.Locked, .bool x1.Insert]] [rR t_api_Cell .b a21 p22 n23 x0.Cells, rR t_api_Cell .b a25 p26 n27 x1.Cells] B I h (fun v L => v = .bool r ∧ L = []) := by
 refine fc_of fun E hs => ?_
 unfold shutterref10_Same.m at H
 obtain rfl := hs.nR d0
 obtain rfl := hs.nR d1
 refine fn_of (args := [.agg #[.int .i64 x0.Rows, .int .i64 x0.Cols, .slice a21 x0.Cells.length p22, .int .i64 x0.Cursor, .bool x0.Locked, .bool x0.Insert], .agg #[.int .i64 x1.Rows, .int .i64 x1.Cols, .slice a25 x1.Cells.length p26, .int .i64 x1.Cursor, .bool x1.Locked, .bool x1.Insert]]) (rs := [.tmp 4]) (N := 66) Tryd.func14 rfl rfl rfl rfl ?_
 refine st 2 [] (k_op (nB hs [.int .i64 x0.Rows, .int .i64 x0.Cols, .slice a21 x0.Cells.length p22, .int .i64 x0.Cursor, .bool x0.Locked, .bool x0.Insert] ?_))
 intro b29 h hs
 refine k_op (nB hs [.int .i64 x1.Rows, .int .i64 x1.Cols, .slice a25 x1.Cells.length p26, .int .i64 x1.Cursor, .bool x1.Locked, .bool x1.Insert] ?_)
 intro b30 h hs
 refine st 6 [] (k_op (lB (hs.bl d1) 0 rfl ?_))
 refine st 1 [] (k_op (lB (hs.bl d0) 0 rfl ?_))
 refine k_iteN H (fun c31 H => ?_) (fun c31 H => ?_)
 ·refine st 2 [] (k_op (lB (hs.bl d1) 1 rfl ?_))
  refine st 1 [] (k_op (lB (hs.bl d0) 1 rfl ?_))
  refine k_iteN H (fun c32 H => ?_) (fun c32 H => ?_)
  ·refine st 3 [] (k_op (lB (hs.bl d1) 3 rfl ?_))
   refine st 1 [] (k_op (lB (hs.bl d0) 3 rfl ?_))
   refine k_iteN H (fun c33 H => ?_) (fun c33 H => ?_)
   ·refine st 3 [] (k_op (lB (hs.bl d1) 4 rfl ?_))
    refine st 1 [] (k_op (lB (hs.bl d0) 4 rfl ?_))
    refine k_if H (fun c34 H => ?_) (fun c34 H => ?_)
    ·refine st 23 [true] ?_
     refine k_retQ ?_
     obtain rfl := Option.some.inj H
     exact ⟨_, by kernel_rfl, I, _, ⟨rfl, rfl⟩, hs.pk .n⟩
    ·refine st 3 [] (k_op (lB (hs.bl d1) 5 rfl ?_))
     refine st 1 [] (k_op (lB (hs.bl d0) 5 rfl ?_))
     refine k_if H (fun c35 H => ?_) (fun c35 H => ?_)
     ·refine st 16 [true] ?_
      refine k_retQ ?_
      obtain rfl := Option.some.inj H
      exact ⟨_, by kernel_rfl, I, _, ⟨rfl, rfl⟩, hs.pk .n⟩
     ·refine st 3 [] (k_op (lB (hs.bl d1) 2 rfl ?_))
      refine st 2 [] (k_op (lB (hs.bl d0) 2 rfl ?_))
      refine st 1 [] (k_iteN H (fun c36 H => ?_) (fun c36 H => ?_))
      ·refine st 10 [false] ?_
       obtain ⟨s38, m40, HR39⟩ := bind_some H
       refine k_loop 0 (fun k' ρ h => ∃ (x37 : Int) (I : Gh), shutterref10_Same.l1.m K x0 x1 k' x37 = some s38 ∧ Fits [(2, .pointer (some ⟨b29, 0, none⟩)), (3, .pointer (some ⟨b30, 0, none⟩)), (5, .int .i64 x37)] ρ ∧ St E [rR t_api_Cell .b a21 p22 x0.Cells.length x0.Cells, rB b29 [.int .i64 x0.Rows, .int .i64 x0.Cols, .slice a21 x0.Cells.length p22, .int .i64 x0.Cursor, .bool x0.Locked, .bool x0.Insert] 31, rR t_api_Cell .b a25 p26 x1.Cells.length x1.Cells, rB b30 [.int .i64 x1.Rows, .int .i64 x1.Cols, .slice a25 x1.Cells.length p26, .int .i64 x1.Cursor, .bool x1.Locked, .bool x1.Insert] 31] I h) (fun ρ h => ∃ (I : Gh), Sum.inr () = s38 ∧ Fits [] ρ ∧ St E [] I h) K ⟨0, I, m40, ⟨by kernel_rfl, by kernel_rfl, by kernel_rfl, trivial⟩, hs.pk (.c d2 (.c d1 (.c d1 (.c d0 .n))))⟩ ?_ rfl ?_
       ·clear m40 H
        rintro k' ρ h ⟨x37, I, H, hf, hs⟩
        cases k' with
        | zero => cases H
        | succ k =>
         rw [shutterref10_Same.l1.m] at H
         refine k_fits _ hf ?_ rfl
         refine st 5 [] (k_op (lB (hs.bl d1) 2 rfl ?_))
         refine st 1 [] (k_ite H (fun c41 H => ?_) (fun c41 H => ?_))
         ·refine st 6 [true] ?_
          obtain ⟨hs0, bk0⟩ := hs.call tk0 (.c (qL d1) (.c (qB d0) (.c (qL d3) (.c (qB d2) .n))))
          have hs := hs0
          refine k_regD hs0 11 ?_
          refine aRun [0] 10 hs.keep ?_
          refine aL 1 rfl hs.keep (ll hs0 d0 (n := 2) rfl) (nmL hs0 d0) ?_
          obtain ⟨c42, H⟩ := guard_pos H
          refine aRun [2] 8 hs.keep ?_
          refine aP 3 (elemPtr a21 (x37.toNat * 6)) rfl (pI (e := 66) (ik := .i64) (hs.sR d1) c42 c41) hs.keep ?_
          obtain ⟨y44, g43, q45⟩ := (hs0.sR d1).toSl.seg c42 c41
          obtain rfl := t_api_Cell.open_ q45
          refine aG 4 rfl hs.keep g43 (nmR hs0 d1 c42 c41) ?_
          refine aRun [5] 5 hs.keep ?_
          refine aL 6 rfl hs.keep (ll hs0 d2 (n := 2) rfl) (nmL hs0 d2) ?_
          obtain ⟨c46, H⟩ := guard_pos H
          refine aRun [7] 3 hs.keep ?_
          refine aP 8 (elemPtr a25 (x37.toNat * 6)) rfl (pI (e := 66) (ik := .i64) (hs.sR d3) c42 c46) hs.keep ?_
          obtain ⟨y48, g47, q49⟩ := (hs0.sR d3).toSl.seg c42 c46
          obtain rfl := t_api_Cell.open_ q49
          refine aG 9 rfl hs.keep g47 (nmR hs0 d3 c42 c46) ?_
          rcases bool_or (((at_ x0.Cells x37).Field == (at_ x1.Cells x37).Field) && (((((at_ x0.Cells x37).Attr).Protected == ((at_ x1.Cells x37).Attr).Protected) && ((((at_ x0.Cells x37).Attr).Numeric == ((at_ x1.Cells x37).Attr).Numeric) && ((((at_ x0.Cells x37).Attr).Show == ((at_ x1.Cells x37).Attr).Show) && ((((at_ x0.Cells x37).Attr).Modified == ((at_ x1.Cells x37).Attr).Modified) && true)))) && (((at_ x0.Cells x37).Char == (at_ x1.Cells x37).Char) && true))) with c50 | c50
          ·replace H := bif_f c50 H
           refine awp_runv 10 (.bool true) rfl (by kernel_rfl) (by kernel_rfl) (run_bool (run_neAgg (xs := #[.bool ((at_ x0.Cells x37).Field), .bool (((at_ x0.Cells x37).Attr).Protected), .bool (((at_ x0.Cells x37).Attr).Numeric), .int .i64 (((at_ x0.Cells x37).Attr).Show), .bool (((at_ x0.Cells x37).Attr).Modified), .int .u8 ((at_ x0.Cells x37).Char)]) (ys := #[.bool ((at_ x1.Cells x37).Field), .bool (((at_ x1.Cells x37).Attr).Protected), .bool (((at_ x1.Cells x37).Attr).Numeric), .int .i64 (((at_ x1.Cells x37).Attr).Show), .bool (((at_ x1.Cells x37).Attr).Modified), .int .u8 ((at_ x1.Cells x37).Char)]) (by kernel_rfl) (by kernel_rfl) (by kernel_rfl) (eqB_run (b := (((at_ x0.Cells x37).Field == (at_ x1.Cells x37).Field) && (((((at_ x0.Cells x37).Attr).Protected == ((at_ x1.Cells x37).Attr).Protected) && ((((at_ x0.Cells x37).Attr).Numeric == ((at_ x1.Cells x37).Attr).Numeric) && ((((at_ x0.Cells x37).Attr).Show == ((at_ x1.Cells x37).Attr).Show) && ((((at_ x0.Cells x37).Attr).Modified == ((at_ x1.Cells x37).Attr).Modified) && true)))) && (((at_ x0.Cells x37).Char == (at_ x1.Cells x37).Char) && true)))) (by kernel_rfl))) (notB c50)) hs.keep ?_
           replace hs := hs.pk .n
           replace hs := bk0 hs ct0 rfl
           refine aEnd ?_
           refine st 5 [true] ?_
           refine k_retQ (krL ?_)
           obtain rfl := Option.some.inj H
           obtain rfl := Option.some.inj HR39
           exact ⟨_, by kernel_rfl, I, _, ⟨rfl, rfl⟩, hs.pk .n⟩
          ·replace H := bif_t c50 H
           refine awp_runv 10 (.bool false) rfl (by kernel_rfl) (by kernel_rfl) (run_bool (run_neAgg (xs := #[.bool ((at_ x0.Cells x37).Field), .bool (((at_ x0.Cells x37).Attr).Protected), .bool (((at_ x0.Cells x37).Attr).Numeric), .int .i64 (((at_ x0.Cells x37).Attr).Show), .bool (((at_ x0.Cells x37).Attr).Modified), .int .u8 ((at_ x0.Cells x37).Char)]) (ys := #[.bool ((at_ x1.Cells x37).Field), .bool (((at_ x1.Cells x37).Attr).Protected), .bool (((at_ x1.Cells x37).Attr).Numeric), .int .i64 (((at_ x1.Cells x37).Attr).Show), .bool (((at_ x1.Cells x37).Attr).Modified), .int .u8 ((at_ x1.Cells x37).Char)]) (by kernel_rfl) (by kernel_rfl) (by kernel_rfl) (eqB_run (b := (((at_ x0.Cells x37).Field == (at_ x1.Cells x37).Field) && (((((at_ x0.Cells x37).Attr).Protected == ((at_ x1.Cells x37).Attr).Protected) && ((((at_ x0.Cells x37).Attr).Numeric == ((at_ x1.Cells x37).Attr).Numeric) && ((((at_ x0.Cells x37).Attr).Show == ((at_ x1.Cells x37).Attr).Show) && ((((at_ x0.Cells x37).Attr).Modified == ((at_ x1.Cells x37).Attr).Modified) && true)))) && (((at_ x0.Cells x37).Char == (at_ x1.Cells x37).Char) && true)))) (by kernel_rfl))) (notB c50)) hs.keep ?_
           replace hs := hs.pk .n
           replace hs := bk0 hs ct0 rfl
           refine aEnd ?_
           refine st 8 [false] ?_
           exact k_endL ⟨k, Nat.lt_succ_self _, (w64 (x37 + 1)), I, H, ⟨by kernel_rfl, by kernel_rfl, by kernel_rfl, trivial⟩, hs.pk (.c d0 (.c d0 (.c d0 (.c d0 .n))))⟩
         ·refine st 2 [false] ?_
          refine k_out rfl ?_
          obtain rfl := Option.some.inj H
          exact xE ⟨I, rfl, trivial, hs.pk .n⟩
       ·rintro ρ h ⟨I, rfl, hf, hs⟩
        have H := HR39
        try dsimp only at H
        refine k_fits _ hf ?_ rfl
        refine st 4 [] ?_
        refine k_retQ ?_
        obtain rfl := Option.some.inj H
        exact ⟨_, by kernel_rfl, I, _, ⟨rfl, rfl⟩, hs.pk .n⟩
      ·refine st 7 [true] ?_
       refine k_retQ ?_
       obtain rfl := Option.some.inj H
       exact ⟨_, by kernel_rfl, I, _, ⟨rfl, rfl⟩, hs.pk .n⟩
   ·refine st 30 [true] ?_
    refine k_retQ ?_
    obtain rfl := Option.some.inj H
    exact ⟨_, by kernel_rfl, I, _, ⟨rfl, rfl⟩, hs.pk .n⟩
  ·refine st 37 [true] ?_
   refine k_retQ ?_
   obtain rfl := Option.some.inj H
   exact ⟨_, by kernel_rfl, I, _, ⟨rfl, rfl⟩, hs.pk .n⟩
 ·refine st 43 [true] ?_
  refine k_retQ ?_
  obtain rfl := Option.some.inj H
  exact ⟨_, by kernel_rfl, I, _, ⟨rfl, rfl⟩, hs.pk .n⟩

/-! shutter/shutterref07.Same -/
def shutterref07_Same.m (K : Nat) (x0 : api_Order) (x1 : api_Order) : Option Bool :=
  (if x0.Kind = x1.Kind then ((shutterref01_Same.m K x0.Text x1.Text).bind fun t32 => bif t32 then (bif ((x0.Attr.Protected == x1.Attr.Protected) && ((x0.Attr.Numeric == x1.Attr.Numeric) && ((x0.Attr.Show == x1.Attr.Show) && ((x0.Attr.Modified == x1.Attr.Modified) && true)))) then (if x0.Addr = x1.Addr then (some (x0.Char == x1.Char)) else (some false)) else (some false)) else (some false)) else (some false))

theorem shutterref07_Same.calls {B I : Gh} {h : Heap} {K : Nat} {x0 : api_Order} {x1 : api_Order} {a21 : Option Addr} {p22 : Nat} {n23 : Nat} {a25 : Option Addr} {p26 : Nat} {n27 : Nat} {r : Bool} (H : shutterref07_Same.m K x0 x1 = some r)  :
    Fc Tryd.prog 34 #[.agg #[.int .i64 x0.Kind, .slice a21 n23 p22, .bool x0.Attr.Protected, .bool x0.Attr.Numeric, .int .i64 x0.Attr.Show, .bool x0.Attr.Modified, .int .i64 x0.Addr, .int .u8 x0.Char], .agg #[.int .i64 x1.Kind, .slice a25 n27 p26, .bool x1.Attr.Protected, .bool x1.Attr.Numeric, .int .i64 x1.Attr.Show, .bool x1.Attr.Modified, .int .i64 x1.Addr, .int .u8 x1.Char]] [rR (tInt .u8) .b a21 p22 n23 x0.Text, rR (tInt .u8) .b a25 p26 n27 x1.Text] B I h (fun v L => v = .bool r ∧ L = []) := by
 refine fc_of fun E hs => ?_
 unfold shutterref07_Same.m at H
 obtain rfl := hs.nR d0
 obtain rfl := hs.nR d1
 refine fn_of (args := [.agg #[.int .i64 x0.Kind, .slice a21 x0.Text.length p22, .bool x0.Attr.Protected, .bool x0.Attr.Numeric, .int .i64 x0.Attr.Show, .bool x0.Attr.Modified, .int .i64 x0.Addr, .int .u8 x0.Char], .agg #[.int .i64 x1.Kind, .slice a25 x1.Text.length p26, .bool x1.Attr.Protected, .bool x1.Attr.Numeric, .int .i64 x1.Attr.Show, .bool x1.Attr.Modified, .int .i64 x1.Addr, .int .u8 x1.Char]]) (rs := [.tmp 4]) (N := 38) Tryd.func34 rfl rfl rfl rfl ?_
 refine st 2 [] (k_op (nB hs [.int .i64 x0.Kind, .slice a21 x0.Text.length p22, .bool x0.Attr.Protected, .bool x0.Attr.Numeric, .int .i64 x0.Attr.Show, .bool x0.Attr.Modified, .int .i64 x0.Addr, .int .u8 x0.Char] ?_))
 intro b29 h hs
 refine k_op (nB hs [.int .i64 x1.Kind, .slice a25 x1.Text.length p26, .bool x1.Attr.Protected, .bool x1.Attr.Numeric, .int .i64 x1.Attr.Show, .bool x1.Attr.Modified, .int .i64 x1.Addr, .int .u8 x1.Char] ?_)
 intro b30 h hs
 refine st 5 [] (k_op (lB (hs.bl d1) 0 rfl ?_))
 refine st 1 [] (k_op (lB (hs.bl d0) 0 rfl ?_))
 refine k_ite H (fun c31 H => ?_) (fun c31 H => ?_)
 ·refine st 2 [] (k_op (lB (hs.bl d1) 1 rfl ?_))
  refine st 1 [] (k_op (lB (hs.bl d0) 1 rfl ?_))
  refine k_call H (fun _ m => shutterref01_Same.calls m (hs.sR d2) (hs.sR d3)) ?_
  rintro t32 _ _ H ⟨rfl, rfl⟩
  cases t32
  ·rw [cond_false] at H
   refine st 24 [] ?_
   refine k_retQ ?_
   obtain rfl := Option.some.inj H
   exact ⟨_, by kernel_rfl, I, _, ⟨rfl, rfl⟩, hs.pk .n⟩
  ·rw [cond_true] at H
   refine st 3 [] (k_op (lN (hs.bl d1) 2 4 ?_))
   refine st 1 [] (k_op (lN (hs.bl d0) 2 4 ?_))
   rcases bool_or ((x0.Attr.Protected == x1.Attr.Protected) && ((x0.Attr.Numeric == x1.Attr.Numeric) && ((x0.Attr.Show == x1.Attr.Show) && ((x0.Attr.Modified == x1.Attr.Modified) && true)))) with c33 | c33
   ·replace H := bif_f c33 H
    refine k_op (owp_run (.bool false) (run_bool (run_eqAgg (xs := #[.bool x0.Attr.Protected, .bool x0.Attr.Numeric, .int .i64 x0.Attr.Show, .bool x0.Attr.Modified]) (ys := #[.bool x1.Attr.Protected, .bool x1.Attr.Numeric, .int .i64 x1.Attr.Show, .bool x1.Attr.Modified]) (by kernel_rfl) (by kernel_rfl) (by kernel_rfl) (eqB_run (b := ((x0.Attr.Protected == x1.Attr.Protected) && ((x0.Attr.Numeric == x1.Attr.Numeric) && ((x0.Attr.Show == x1.Attr.Show) && ((x0.Attr.Modified == x1.Attr.Modified) && true))))) (by kernel_rfl))) c33) ?_)
    refine st 17 [] ?_
    refine k_retQ ?_
    obtain rfl := Option.some.inj H
    exact ⟨_, by kernel_rfl, I, _, ⟨rfl, rfl⟩, hs.pk .n⟩
   ·replace H := bif_t c33 H
    refine k_op (owp_run (.bool true) (run_bool (run_eqAgg (xs := #[.bool x0.Attr.Protected, .bool x0.Attr.Numeric, .int .i64 x0.Attr.Show, .bool x0.Attr.Modified]) (ys := #[.bool x1.Attr.Protected, .bool x1.Attr.Numeric, .int .i64 x1.Attr.Show, .bool x1.Attr.Modified]) (by kernel_rfl) (by kernel_rfl) (by kernel_rfl) (eqB_run (b := ((x0.Attr.Protected == x1.Attr.Protected) && ((x0.Attr.Numeric == x1.Attr.Numeric) && ((x0.Attr.Show == x1.Attr.Show) && ((x0.Attr.Modified == x1.Attr.Modified) && true))))) (by kernel_rfl))) c33) ?_)
    refine st 3 [] (k_op (lB (hs.bl d1) 6 rfl ?_))
    refine st 1 [] (k_op (lB (hs.bl d0) 6 rfl ?_))
    refine k_ite H (fun c34 H => ?_) (fun c34 H => ?_)
    ·refine st 3 [] (k_op (lB (hs.bl d1) 7 rfl ?_))
     refine st 1 [] (k_op (lB (hs.bl d0) 7 rfl ?_))
     refine st 4 [] ?_
     refine k_retQ ?_
     obtain rfl := Option.some.inj H
     exact ⟨_, by kernel_rfl, I, _, ⟨rfl, rfl⟩, hs.pk .n⟩
    ·refine st 10 [] ?_
     refine k_retQ ?_
     obtain rfl := Option.some.inj H
     exact ⟨_, by kernel_rfl, I, _, ⟨rfl, rfl⟩, hs.pk .n⟩
 ·refine st 30 [] ?_
  refine k_retQ ?_
  obtain rfl := Option.some.inj H
  exact ⟨_, by kernel_rfl, I, _, ⟨rfl, rfl⟩, hs.pk .n⟩

/-! shutter/shutterref08.Same -/
def shutterref08_Same.l1.m (K : Nat) (x0 : api_Out) (x1 : api_Out) : Nat → Int → Option (Bool ⊕ (Unit))
  | 0, _ => none
  | k + 1, x34 => (if x34 < (x0.Orders.length : Int) then (if 0 ≤ x34 then (if x34 < (x1.Orders.length : Int) then ((shutterref07_Same.m K (⟨(at_ x0.Orders x34).Kind, (at_ x0.Orders x34).Text, ((at_ x0.Orders x34).Attr), (at_ x0.Orders x34).Addr, (at_ x0.Orders x34).Char⟩ : api_Order) (⟨(at_ x1.Orders x34).Kind, (at_ x1.Orders x34).Text, ((at_ x1.Orders x34).Attr), (at_ x1.Orders x34).Addr, (at_ x1.Orders x34).Char⟩ : api_Order)).bind fun t57 => bif t57 then (shutterref08_Same.l1.m K x0 x1 k (w64 (x34 + 1))) else (some (Sum.inl false))) else none) else none) else (some (Sum.inr ())))
def shutterref08_Same.m (K : Nat) (x0 : api_Out) (x1 : api_Out) : Option Bool :=
  (if x0.Cmd = x1.Cmd then (bif ((x0.Wcc.Alarm == x1.Wcc.Alarm) && ((x0.Wcc.Unlock == x1.Wcc.Unlock) && ((x0.Wcc.Reset == x1.Wcc.Reset) && true))) then (if (x0.Orders.length : Int) = (x1.Orders.length : Int) then ((shutterref08_Same.l1.m K x0 x1 K 0).bind fun s35 => match s35 with | .inl q => (some q) | .inr _ => (some true)) else (some false)) else (some false)) else (some false))

theorem shutterref08_Same.calls {B I : Gh} {h : Heap} {K : Nat} {x0 : api_Out} {x1 : api_Out} {a21 : Option Addr} {p22 : Nat} {n23 : Nat} {a25 : Option Addr} {p26 : Nat} {n27 : Nat} {r : Bool} (H : shutterref08_Same.m K x0 x1 = some r)  :
    Fc Tryd.prog 15 #[.agg #[.int .i64 x0.Cmd, .bool x0.Wcc.Alarm, .bool x0.Wcc.Unlock, .bool x0.Wcc.Reset, .slice a21 n23 p22], .agg #[.int .i64 x1.Cmd, .bool x1.Wcc.Alarm, .bool x1.Wcc.Unlock, .bool x1.Wcc.Reset, .slice a25 n27 p26]] [rR t_api_Order .b a21 p22 n23 x0.Orders, rR t_api_Order .b a25 p26 n27 x1.Orders] B I h (fun v L => v = .bool r ∧ L = []) := by
 refine fc_of fun E hs => ?_
 unfold shutterref08_Same.m at H
 obtain rfl := hs.nR d0
 obtain rfl := hs.nR d1
 refine fn_of (args := [.agg #[.int .i64 x0.Cmd, .bool x0.Wcc.Alarm, .bool x0.Wcc.Unlock, .bool x0.Wcc.Reset, .slice a21 x0.Orders.length p22], .agg #[.int .i64 x1.Cmd, .bool x1.Wcc.Alarm, .bool x1.Wcc.Unlock, .bool x1.Wcc.Reset, .slice a25 x1.Orders.length p26]]) (rs := [.tmp 4]) (N := 46) Tryd.func15 rfl rfl rfl rfl ?_
 refine st 2 [] (k_op (nB hs [.int .i64 x0.Cmd, .bool x0.Wcc.Alarm, .bool x0.Wcc.Unlock, .bool x0.Wcc.Reset, .slice a21 x0.Orders.length p22] ?_))
 intro b29 h hs
 refine k_op (nB hs [.int .i64 x1.Cmd, .bool x1.Wcc.Alarm, .bool x1.Wcc.Unlock, .bool x1.Wcc.Reset, .slice a25 x1.Orders.length p26] ?_)
 intro b30 h hs
 refine st 6 [] (k_op (lB (hs.bl d1) 0 rfl ?_))
 refine st 1 [] (k_op (lB (hs.bl d0) 0 rfl ?_))
 refine k_iteN H (fun c31 H => ?_) (fun c31 H => ?_)
 ·refine st 2 [] (k_op (lN (hs.bl d1) 1 3 ?_))
  refine st 1 [] (k_op (lN (hs.bl d0) 1 3 ?_))
  rcases bool_or ((x0.Wcc.Alarm == x1.Wcc.Alarm) && ((x0.Wcc.Unlock == x1.Wcc.Unlock) && ((x0.Wcc.Reset == x1.Wcc.Reset) && true))) with c32 | c32
  ·replace H := bif_f c32 H
   refine k_op (owp_run (.bool true) (run_bool (run_neAgg (xs := #[.bool x0.Wcc.Alarm, .bool x0.Wcc.Unlock, .bool x0.Wcc.Reset]) (ys := #[.bool x1.Wcc.Alarm, .bool x1.Wcc.Unlock, .bool x1.Wcc.Reset]) (by kernel_rfl) (by kernel_rfl) (by kernel_rfl) (eqB_run (b := ((x0.Wcc.Alarm == x1.Wcc.Alarm) && ((x0.Wcc.Unlock == x1.Wcc.Unlock) && ((x0.Wcc.Reset == x1.Wcc.Reset) && true)))) (by kernel_rfl))) (notB c32)) ?_)
   refine st 16 [true] ?_
   refine k_retQ ?_
   obtain rfl := Option.some.inj H
   exact ⟨_, by kernel_rfl, I, _, ⟨rfl, rfl⟩, hs.pk .n⟩
  ·replace H := bif_t c32 H
   refine k_op (owp_run (.bool false) (run_bool (run_neAgg (xs := #[.bool x0.Wcc.Alarm, .bool x0.Wcc.Unlock, .bool x0.Wcc.Reset]) (ys := #[.bool x1.Wcc.Alarm, .bool x1.Wcc.Unlock, .bool x1.Wcc.Reset]) (by kernel_rfl) (by kernel_rfl) (by kernel_rfl) (eqB_run (b := ((x0.Wcc.Alarm == x1.Wcc.Alarm) && ((x0.Wcc.Unlock == x1.Wcc.Unlock) && ((x0.Wcc.Reset == x1.Wcc.Reset) && true)))) (by kernel_rfl))) (notB c32)) ?_)
   refine st 3 [] (k_op (lB (hs.bl d1) 4 rfl ?_))
   refine st 2 [] (k_op (lB (hs.bl d0) 4 rfl ?_))
   refine st 1 [] (k_iteN H (fun c33 H => ?_) (fun c33 H => ?_))
   ·refine st 10 [false] ?_
    obtain ⟨s35, m37, HR36⟩ := bind_some H
    refine k_loop 0 (fun k' ρ h => ∃ (x34 : Int) (I : Gh), shutterref08_Same.l1.m K x0 x1 k' x34 = some s35 ∧ Fits [(2, .pointer (some ⟨b29, 0, none⟩)), (3, .pointer (some ⟨b30, 0, none⟩)), (5, .int .i64 x34)] ρ ∧ St E [rR t_api_Order .b a21 p22 x0.Orders.length x0.Orders, rB b29 [.int .i64 x0.Cmd, .bool x0.Wcc.Alarm, .bool x0.Wcc.Unlock, .bool x0.Wcc.Reset, .slice a21 x0.Orders.length p22] 54, rR t_api_Order .b a25 p26 x1.Orders.length x1.Orders, rB b30 [.int .i64 x1.Cmd, .bool x1.Wcc.Alarm, .bool x1.Wcc.Unlock, .bool x1.Wcc.Reset, .slice a25 x1.Orders.length p26] 54] I h) (fun ρ h => ∃ (I : Gh), Sum.inr () = s35 ∧ Fits [] ρ ∧ St E [] I h) K ⟨0, I, m37, ⟨by kernel_rfl, by kernel_rfl, by kernel_rfl, trivial⟩, hs.pk (.c d2 (.c d1 (.c d1 (.c d0 .n))))⟩ ?_ rfl ?_
    ·clear m37 H
     rintro k' ρ h ⟨x34, I, H, hf, hs⟩
     cases k' with
     | zero => cases H
     | succ k =>
      rw [shutterref08_Same.l1.m] at H
      refine k_fits _ hf ?_ rfl
      refine st 5 [] (k_op (lB (hs.bl d1) 4 rfl ?_))
      refine st 1 [] (k_ite H (fun c38 H => ?_) (fun c38 H => ?_))
      ·refine st 6 [true] ?_
       obtain ⟨hs0, bk0⟩ := hs.call tk0 (.c (qL d1) (.c (qB d0) (.c (qL d3) (.c (qB d2) .n))))
       have hs := hs0
       refine k_regD hs0 12 ?_
       refine aRun [0] 11 hs.keep ?_
       refine aL 1 rfl hs.keep (ll hs0 d0 (n := 4) rfl) (nmL hs0 d0) ?_
       obtain ⟨c39, H⟩ := guard_pos H
       refine aRun [2] 9 hs.keep ?_
       refine aP 3 (elemPtr a21 (x34.toNat * 8)) rfl (pI (e := 39) (ik := .i64) (hs.sR d1) c39 c38) hs.keep ?_
       obtain ⟨y41, g40, q42⟩ := (hs0.sR d1).toSl.seg c39 c38
       obtain ⟨a43, p44, n45, rfl, q47⟩ := t_api_Order.open_ q42
       obtain rfl := q47.2
       replace hs := hs.pR q47
       refine aG 4 rfl hs.keep g40 (nmR hs0 d1 c39 c38) ?_
       refine aRun [5] 6 hs.keep ?_
       refine aL 6 rfl hs.keep (ll hs0 d2 (n := 4) rfl) (nmL hs0 d2) ?_
       obtain ⟨c48, H⟩ := guard_pos H
       refine aRun [7] 4 hs.keep ?_
       refine aP 8 (elemPtr a25 (x34.toNat * 8)) rfl (pI (e := 39) (ik := .i64) (hs.sR d4) c39 c48) hs.keep ?_
       obtain ⟨y50, g49, q51⟩ := (hs0.sR d3).toSl.seg c39 c48
       obtain ⟨a52, p53, n54, rfl, q56⟩ := t_api_Order.open_ q51
       obtain rfl := q56.2
       replace hs := hs.pR q56
       refine aG 9 rfl hs.keep g49 (nmR hs0 d3 c39 c48) ?_
       obtain ⟨hk, bk⟩ := hs.call tk0 (.c (qB d1) (.c (qB d0) .n))
       refine aO1 10 rfl (o_call H (fun _ m => shutterref07_Same.calls m hk) ?_)
       rintro t57 _ h H ⟨I, _, ⟨rfl, rfl⟩, hk⟩
       replace hs := bk hk ct0 rfl
       refine ⟨hs.keep, ?_⟩
       cases t57
       ·rw [cond_false] at H
        refine aRun [11] 0 hs.keep ?_
        replace hs := hs.pk .n
        replace hs := bk0 hs ct0 rfl
        refine aEnd ?_
        refine st 5 [true] ?_
        refine k_retQ (krL ?_)
        obtain rfl := Option.some.inj H
        obtain rfl := Option.some.inj HR36
        exact ⟨_, by kernel_rfl, I, _, ⟨rfl, rfl⟩, hs.pk .n⟩
       ·rw [cond_true] at H
        refine aRun [11] 0 hs.keep ?_
        replace hs := hs.pk .n
        replace hs := bk0 hs ct0 rfl
        refine aEnd ?_
        refine st 8 [false] ?_
        exact k_endL ⟨k, Nat.lt_succ_self _, (w64 (x34 + 1)), I, H, ⟨by kernel_rfl, by kernel_rfl, by kernel_rfl, trivial⟩, hs.pk (.c d0 (.c d0 (.c d0 (.c d0 .n))))⟩
      ·refine st 2 [false] ?_
       refine k_out rfl ?_
       obtain rfl := Option.some.inj H
       exact xE ⟨I, rfl, trivial, hs.pk .n⟩
    ·rintro ρ h ⟨I, rfl, hf, hs⟩
     have H := HR36
     try dsimp only at H
     refine k_fits _ hf ?_ rfl
     refine st 4 [] ?_
     refine k_retQ ?_
     obtain rfl := Option.some.inj H
     exact ⟨_, by kernel_rfl, I, _, ⟨rfl, rfl⟩, hs.pk .n⟩
   ·refine st 7 [true] ?_
    refine k_retQ ?_
    obtain rfl := Option.some.inj H
    exact ⟨_, by kernel_rfl, I, _, ⟨rfl, rfl⟩, hs.pk .n⟩
 ·refine st 22 [true] ?_
  refine k_retQ ?_
  obtain rfl := Option.some.inj H
  exact ⟨_, by kernel_rfl, I, _, ⟨rfl, rfl⟩, hs.pk .n⟩

end Go.Proofs.YtfbcjibdgicaoaaDoor.Sx
