/- Printed walks, part 0: each function's model, and that the code comes to it. -/
import Derived.Test.YtenlbpcfilmgpaaDoorProg
import Derived.Test.YtenlbpcfilmgpaaDoorSx9
namespace Go.Proofs.YtenlbpcfilmgpaaDoor.Sx
open Go

structure bytes_Cursor where
  b' : (List Int)
  at' : Int
  err' : GoErr
  deriving DecidableEq, Inhabited

def t_bytes_Cursor : Ty bytes_Cursor where
  size := 3
  rep I h cs x := ∃ a_0, ∃ c_0, ∃ v_2, cs = [.slice a_0 x.b'.length c_0, .int .i64 x.at', v_2] ∧ Rd (tInt .u8) I h a_0 c_0 x.b' ∧ ErrV I h x.err' v_2
  len := by rintro _ _ _ _ ⟨_, _, _, rfl, _, _⟩; rfl
  one := by
    rintro _ _ _ _ ⟨e0, e1, e2, rfl, q0, q1⟩ v hv
    simp only [List.mem_cons, List.not_mem_nil, or_false] at hv
    rcases hv with rfl | rfl | rfl
    · exact rfl
    · exact rfl
    · exact q1.one
  up := by rintro _ _ _ _ _ _ u ⟨e0, e1, e2, rfl, q0, q1⟩; exact ⟨e0, e1, e2, rfl, q0.up u, q1.up u⟩
theorem t_bytes_Cursor.open_ {I : Gh} {h : Heap} {cs : List Value} {x : bytes_Cursor} (r : t_bytes_Cursor.rep I h cs x) : ∃ a_0, ∃ c_0, ∃ v_2, cs = [.slice a_0 x.b'.length c_0, .int .i64 x.at', v_2] ∧ Rd (tInt .u8) I h a_0 c_0 x.b' ∧ ErrV I h x.err' v_2 := r

structure shutterlaw06_Act where
  Do : Int
  N : Int
  deriving DecidableEq, Inhabited

def t_shutterlaw06_Act : Ty shutterlaw06_Act where
  size := 2
  rep I h cs x := cs = [.int .i64 x.Do, .int .i64 x.N]
  len := by rintro _ _ _ _ rfl; rfl
  one := by
    rintro _ _ _ _ rfl v hv
    simp only [List.mem_cons, List.not_mem_nil, or_false] at hv
    rcases hv with rfl | rfl
    · exact rfl
    · exact rfl
  up := by intro _ _ _ _ _ _ _ e; exact e
theorem t_shutterlaw06_Act.open_ {I : Gh} {h : Heap} {cs : List Value} {x : shutterlaw06_Act} (r : t_shutterlaw06_Act.rep I h cs x) : cs = [.int .i64 x.Do, .int .i64 x.N] := r

/-! slices.Clone[[]byte,byte] -/
def slices_Clone_bytes.m (x0 : (List Int)) : Option (List Int) :=
  ((app [] x0).bind fun l16 => (some l16))

set_option maxRecDepth 100000 in
theorem slices_Clone_bytes.calls {I : Gh} {h : Heap} {x0 : List Int} {a1 : Option Addr} {c2 : Nat} (hB : Bd I h) (r4 : Rd (tInt .u8) I h a1 c2 x0) {r : (List Int)}
    (H : slices_Clone_bytes.m x0 = some r) :
    Ret Tryd.prog 31 #[.slice a1 x0.length c2] h (fun v h' => ∃ (I' : Gh) (a27 : Option Addr) (c28 : Nat), .slice a27 r.length c28 = v ∧ Pst No I h I' h' ∧ Own (tInt .u8) I' h' a27 c28 r ∧ (∀ b, InA a27 b → h.size ≤ b)) := by
  unfold slices_Clone_bytes.m at H
  refine ret_of (args := [.slice a1 x0.length c2]) (rs := [.tmp 2]) (N := 8) Tryd.func31 rfl rfl rfl (Nat.le_of_ble_eq_true rfl) ?_
  have pt0 : Pst No I h I h := Pst.refl hB
  refine cwp_seq ?_
  refine cwp_region ?_
  refine lwp_run 1 (by kernel_rfl) ?_
  refine lwp_nil ?_
  refine cwp_seq ?_
  refine cwp_seq ?_
  refine cwp_region ?_
  refine lwp_run 1 (by kernel_rfl) ?_
  rcases a1 with _ | ad5
  · obtain ⟨rfl, rfl⟩ := r4.toSl.nil rfl
    replace H : (some []) = some r := by simpa [app, Lim] using H
    refine lwp_run 1 (by kernel_rfl) ?_
    refine lwp_nil ?_
    refine cwp_true (by kernel_rfl) ?_
    refine cwp_seq ?_
    refine cwp_region ?_
    refine lwp_run 1 (by kernel_rfl) ?_
    refine lwp_nil ?_
    refine cwp_ret ?_
    obtain rfl := Option.some.inj H
    show Exists _
    exact ⟨.slice none 0 0, by kernel_rfl, I, none, 0, rfl, pt0, (own_nil (tInt .u8) I h), none_fresh⟩
  · refine lwp_run 1 (by kernel_rfl) ?_
    refine lwp_nil ?_
    refine cwp_false (by kernel_rfl) ?_
    refine cwp_skip ?_
    refine cwp_seq ?_
    refine cwp_region ?_
    refine lwp_op (by kernel_rfl) (owp_buildSlice (e := 5) [] 1 (.int .u8 0) hB (by kernel_rfl) (by kernel_rfl) (by kernel_rfl) (by kernel_rfl) (by kernel_rfl) ?_)
    intro b6 h7 hc8 p9 o10
    have pt11 := pt0.no p9
    have fr12 := Nat.le_trans pt0.size hc8
    have w13 := o10.own (l := ([] : List Int)) (Reps.int (k := .u8) (l := []))
    have fw13 := some_fresh fr12
    refine lwp_run 1 (by kernel_rfl) ?_
    have f15 := r4.up (p9.up hB (fun _ x => x.elim))
    obtain ⟨l16, m17, H⟩ := bind_some H
    refine lwp_op (by kernel_rfl) (owp_app (e := 5) (bytes := 1) (tInt .u8) (by kernel_rfl) (elemOk_of (by kernel_rfl)) rfl rfl p9.bd w13 f15.toSl m17 (by kernel_rfl) (by kernel_rfl) ?_)
    intro a18 c19 h20 p21 o22 fr23
    have pt24 := pt11.own p21 (fun b x => .inr (fw13 b x))
    have fr26 := fresh_step fw13 fr23 pt11.size
    refine lwp_run 1 (by kernel_rfl) ?_
    refine lwp_nil ?_
    refine cwp_ret ?_
    obtain rfl := Option.some.inj H
    show Exists _
    exact ⟨.slice a18 l16.length c19, by kernel_rfl, I, a18, c19, rfl, pt24, o22, fr26⟩

/-! shutter/bytes.New -/
def bytes_New.m (x0 : (List Int)) : Option bytes_Cursor :=
  ((slices_Clone_bytes.m x0).bind fun t5 => (some (⟨t5, 0, GoErr.nil⟩ : bytes_Cursor)))

set_option maxRecDepth 100000 in
theorem bytes_New.calls {I : Gh} {h : Heap} {x0 : List Int} {a1 : Option Addr} {c2 : Nat} (hB : Bd I h) (r4 : Rd (tInt .u8) I h a1 c2 x0) {r : bytes_Cursor}
    (H : bytes_New.m x0 = some r) :
    Ret Tryd.prog 12 #[.slice a1 x0.length c2] h (fun v h' => ∃ (I' : Gh) (b33 : Nat) (a34 : Option Addr) (c35 : Nat) (v38 : Value), .pointer (some ⟨b33, 0, none⟩) = v ∧ Pst No I h I' h' ∧ Rd (tInt .u8) I' h' a34 c35 r.b' ∧ ErrV I' h' r.err' v38 ∧ OwnB I' h' b33 [.slice a34 r.b'.length c35, .int .i64 r.at', v38] 62 ∧ h.size ≤ b33) := by
  unfold bytes_New.m at H
  refine ret_of (args := [.slice a1 x0.length c2]) (rs := [.tmp 2]) (N := 7) Tryd.func12 rfl rfl rfl (Nat.le_of_ble_eq_true rfl) ?_
  have pt0 : Pst No I h I h := Pst.refl hB
  refine cwp_seq ?_
  refine cwp_region ?_
  refine lwp_run 1 (by kernel_rfl) ?_
  refine lwp_nil ?_
  refine cwp_seq ?_
  refine cwp_region ?_
  refine lwp_run 1 (by kernel_rfl) ?_
  obtain ⟨t5, m6, H⟩ := bind_some H
  refine lwp_op (by kernel_rfl) (owp_callF (by kernel_rfl) (slices_Clone_bytes.calls hB r4 m6) ?_)
  rintro v7 h8 ⟨I9, a12, c13, rfl, p10, r15, fr16⟩
  have pt17 := pt0.no p10
  have fr18 := fresh_up fr16 pt0.size
  refine lwp_run 1 (by kernel_rfl) ?_
  refine lwp_op (by kernel_rfl) (owp_box [.slice a12 t5.length c13, .int .i64 0, .nilIface] p10.bd (by kernel_rfl) ?_)
  intro b19 h20 hc21 p22 o23
  have pt24 := pt17.no p22
  have fr25 := Nat.le_trans pt17.size hc21
  have d26 := notIn_new r15.lt hc21
  refine lwp_run 1 (by kernel_rfl) ?_
  refine lwp_nil ?_
  refine cwp_ret ?_
  obtain rfl := Option.some.inj H
  have f27 := r15.post p10.bd p22 (fun _ x => x.elim) (fun _ _ x => x.elim)
  have pt28 := post_fz f27 p22.bd pt24 fr18
  have r30 := f27.rd
  have bd31 := bd_fz f27 p22.bd
  have f32 := o23.fz d26
  show Exists _
  exact ⟨.pointer (some ⟨b19, 0, none⟩), by kernel_rfl, (Fz I9 a12), b19, a12, c13, (.nilIface), rfl, pt28, r30, (show ErrV (Fz I9 a12) h20 GoErr.nil .nilIface from rfl), f32, fr25⟩

/-! (*shutter/bytes.Cursor).Left -/
def bytes_Cursor_Left.m (x0 : bytes_Cursor) : Option (Int × bytes_Cursor) :=
  (some ((w64 ((x0.b'.length : Int) - x0.at')), x0))

set_option maxRecDepth 100000 in
theorem bytes_Cursor_Left.calls {I : Gh} {h : Heap} {b0 : Nat} {x0 : bytes_Cursor} {a1 : Option Addr} {c2 : Nat} {v5 : Value} (hB : Bd I h) (o8 : OwnB I h b0 [.slice a1 x0.b'.length c2, .int .i64 x0.at', v5] 62) (r4 : Rd (tInt .u8) I h a1 c2 x0.b') (q7 : ErrV I h x0.err' v5) {r : (Int × bytes_Cursor)}
    (H : bytes_Cursor_Left.m x0 = some r) :
    Ret Tryd.prog 13 #[.pointer (some ⟨b0, 0, none⟩)] h (fun v h' => ∃ (I' : Gh) (a9 : Option Addr) (c10 : Nat) (v13 : Value), .int .i64 r.1 = v ∧ Pst (One b0) I h I' h' ∧ Rd (tInt .u8) I' h' a9 c10 r.2.b' ∧ ErrV I' h' r.2.err' v13 ∧ OwnB I' h' b0 [.slice a9 r.2.b'.length c10, .int .i64 r.2.at', v13] 62) := by
  unfold bytes_Cursor_Left.m at H
  refine ret_of (args := [.pointer (some ⟨b0, 0, none⟩)]) (rs := [.tmp 2]) (N := 13) Tryd.func13 rfl rfl rfl (Nat.le_of_ble_eq_true rfl) ?_
  have pt0 : Pst (One b0) I h I h := Pst.refl hB
  refine cwp_seq ?_
  refine cwp_region ?_
  refine lwp_run 1 (by kernel_rfl) ?_
  refine lwp_nil ?_
  refine cwp_seq ?_
  refine cwp_regionD (Keep No h) (by kernel_rfl) ?_
  refine awp_run (fuel := 8) [0, 1, 2] Keep.refl (by kernel_rfl) ?_
  refine awp_load 3 rfl (by kernel_rfl) (by kernel_rfl) (by kernel_rfl) (by kernel_rfl) Keep.refl (o8.cell (off := 0) rfl) (fun _ _ x => x.elim) ?_
  refine awp_run (fuel := 3) [4, 5, 6, 7] Keep.refl (by kernel_rfl) ?_
  refine awp_load 8 rfl (by kernel_rfl) (by kernel_rfl) (by kernel_rfl) (by kernel_rfl) Keep.refl (o8.cell (off := 1) rfl) (fun _ _ x => x.elim) ?_
  refine awp_run (fuel := 0) [9, 10] Keep.refl (by kernel_rfl) ?_
  refine awp_nil (by kernel_rfl) ?_ 0
  refine cwp_ret ?_
  obtain rfl := Option.some.inj H
  show Exists _
  exact ⟨.int .i64 (w64 ((x0.b'.length : Int) - x0.at')), by kernel_rfl, I, a1, c2, (v5), rfl, pt0, r4, q7, o8⟩

/-! (*shutter/bytes.Cursor).Fail -/
def bytes_Cursor_Fail.m (x0 : bytes_Cursor) (x1 : GoErr) : Option bytes_Cursor :=
  (letJ (fun (x23 : Bool) => (bif x23 then (some (⟨x0.b', x0.at', (GoErr.spot x0.at' x1)⟩ : bytes_Cursor)) else (some x0))) fun (j28 : Bool → Option bytes_Cursor) => (if x0.err' = GoErr.nil then (if x1 = GoErr.nil then (j28 false) else (j28 true)) else (j28 false)))

set_option maxRecDepth 100000 in
theorem bytes_Cursor_Fail.calls {I : Gh} {h : Heap} {b0 : Nat} {x0 : bytes_Cursor} {a1 : Option Addr} {c2 : Nat} {v5 : Value} {x1 : GoErr} {v9 : Value} (hB : Bd I h) (o8 : OwnB I h b0 [.slice a1 x0.b'.length c2, .int .i64 x0.at', v5] 62) (r4 : Rd (tInt .u8) I h a1 c2 x0.b') (q7 : ErrV I h x0.err' v5) (q11 : ErrV I h x1 v9) {r : bytes_Cursor}
    (H : bytes_Cursor_Fail.m x0 x1 = some r) :
    Ret Tryd.prog 16 #[.pointer (some ⟨b0, 0, none⟩), v9] h (fun v h' => ∃ (I' : Gh) (a56 : Option Addr) (c57 : Nat) (v60 : Value), .tuple #[] = v ∧ Pst (One b0) I h I' h' ∧ Rd (tInt .u8) I' h' a56 c57 r.b' ∧ ErrV I' h' r.err' v60 ∧ OwnB I' h' b0 [.slice a56 r.b'.length c57, .int .i64 r.at', v60] 62) := by
  unfold bytes_Cursor_Fail.m at H
  refine ret_of (args := [.pointer (some ⟨b0, 0, none⟩), v9]) (rs := []) (N := 24) Tryd.func16 rfl rfl rfl (Nat.le_of_ble_eq_true rfl) ?_
  have pt0 : Pst (One b0) I h I h := Pst.refl hB
  obtain ⟨j28, e55, H⟩ := letJ_some H
  refine cwp_join (fun ρ' h18 => ∃ (x23 : Bool) (v22 : Value) (v26 : Value) (I19 : Gh), j28 x23 = some r ∧ Fits [(0, .pointer (some ⟨b0, 0, none⟩)), (1, v22), (12, .bool x23)] ρ' ∧ Pst (One b0) I h I19 h18 ∧ ErrV I19 h18 x1 v22 ∧ Rd (tInt .u8) I19 h18 a1 c2 x0.b' ∧ ErrV I19 h18 x0.err' v26 ∧ OwnB I19 h18 b0 [.slice a1 x0.b'.length c2, .int .i64 x0.at', v26] 62) ?_ ?_
  · refine cwp_region ?_
    refine lwp_run 3 (by kernel_rfl) ?_
    refine lwp_op (by kernel_rfl) (owp_load (by kernel_rfl) (by kernel_rfl) (o8.cell (off := 2) rfl) ?_)
    rcases q7.cases with ⟨c12, rfl⟩ | ⟨c12, t13, u14, rfl⟩
    · rw [if_pos c12] at H
      refine lwp_run 3 (by kernel_rfl) ?_
      rcases q11.cases with ⟨c15, rfl⟩ | ⟨c15, t16, u17, rfl⟩
      · rw [if_pos c15] at H
        refine lwp_run 2 (by kernel_rfl) ?_
        refine lwp_nil ?_
        exact ⟨false, .nilIface, .nilIface, I, H, ⟨by kernel_rfl, by kernel_rfl, by kernel_rfl, trivial⟩, pt0, q11, r4, q7, o8⟩
      · rw [if_neg c15] at H
        refine lwp_run 2 (by kernel_rfl) ?_
        refine lwp_nil ?_
        exact ⟨true, (.iface t16 u17), .nilIface, I, H, ⟨by kernel_rfl, by kernel_rfl, by kernel_rfl, trivial⟩, pt0, q11, r4, q7, o8⟩
    · rw [if_neg c12] at H
      refine lwp_run 5 (by kernel_rfl) ?_
      refine lwp_nil ?_
      exact ⟨false, v9, (.iface t13 u14), I, H, ⟨by kernel_rfl, by kernel_rfl, by kernel_rfl, trivial⟩, pt0, q11, r4, q7, o8⟩
  · clear H
    rintro ρ' h18 ⟨x23, v22, v26, I19, H, hf, pt20, q21, r24, q25, o27⟩
    refine cwp_fits _ hf ?_
    subst e55
    try dsimp only at H
    cases x23
    · rw [cond_false] at H
      refine cwp_false (by kernel_rfl) ?_
      refine cwp_skip ?_
      obtain rfl := Option.some.inj H
      show Exists _
      exact ⟨.tuple #[], by kernel_rfl, I19, a1, c2, (v26), rfl, pt20, r24, q25, o27⟩
    · rw [cond_true] at H
      refine cwp_true (by kernel_rfl) ?_
      refine cwp_region ?_
      refine lwp_run 4 (by kernel_rfl) ?_
      refine lwp_op (by kernel_rfl) (owp_load (by kernel_rfl) (by kernel_rfl) (o27.cell (off := 1) rfl) ?_)
      refine lwp_run 1 (by kernel_rfl) ?_
      rcases q21.cases with ⟨c29, rfl⟩ | ⟨c29, t30, u31, rfl⟩
      · refine lwp_run 1 (by kernel_rfl) ?_
        refine lwp_op (by kernel_rfl) (owp_box [.int .i64 x0.at', .nilIface] pt20.bd (by kernel_rfl) ?_)
        intro b32 h33 hc34 p35 o36
        have pt37 := pt20.no p35
        have fr38 := Nat.le_trans pt20.size hc34
        have d39 := ne_new o27.lt hc34
        have f40 := ErrV.up (p35.up pt20.bd (fun _ x => x.elim)) q21
        have pt41 := post_fzB o36 p35.bd pt37 fr38
        have bd42 := bd_fzB o36 p35.bd
        have q43 := mk_spot (a := x0.at') (e := x1) o36 f40
        refine lwp_run 3 (by kernel_rfl) ?_
        have f45 := o27.post p35 (fun x => x.elim)
        have f46 := f45.fz (some_ne d39)
        refine lwp_op (by kernel_rfl) (owp_store1 2 ((.iface 64 (.pointer (some ⟨b32, 0, none⟩)))) bd42 f46 (by kernel_rfl) (by kernel_rfl) rfl (by kernel_rfl) (Nat.le_of_ble_eq_true rfl) ?_)
        intro h47 p48 o49
        have pt50 := pt41.own p48 (one_in (show One b0 b0 from rfl))
        refine lwp_nil ?_
        obtain rfl := Option.some.inj H
        have f51 := r24.up (p35.up pt20.bd (fun _ x => x.elim))
        have f52 := f51.up (up_fz (a := (some ⟨b32, 0, none⟩)))
        have f53 := f52.up (p48.up bd42 (one_not f46.no))
        have f54 := ErrV.up (p48.up bd42 (one_not f46.no)) q43
        show Exists _
        exact ⟨.tuple #[], by kernel_rfl, (Fz I19 (some ⟨b32, 0, none⟩)), a1, c2, ((.iface 64 (.pointer (some ⟨b32, 0, none⟩)))), rfl, pt50, f53, f54, o49⟩
      · refine lwp_run 1 (by kernel_rfl) ?_
        refine lwp_op (by kernel_rfl) (owp_box [.int .i64 x0.at', (.iface t30 u31)] pt20.bd (by kernel_rfl) ?_)
        intro b32 h33 hc34 p35 o36
        have pt37 := pt20.no p35
        have fr38 := Nat.le_trans pt20.size hc34
        have d39 := ne_new o27.lt hc34
        have f40 := ErrV.up (p35.up pt20.bd (fun _ x => x.elim)) q21
        have pt41 := post_fzB o36 p35.bd pt37 fr38
        have bd42 := bd_fzB o36 p35.bd
        have q43 := mk_spot (a := x0.at') (e := x1) o36 f40
        refine lwp_run 3 (by kernel_rfl) ?_
        have f45 := o27.post p35 (fun x => x.elim)
        have f46 := f45.fz (some_ne d39)
        refine lwp_op (by kernel_rfl) (owp_store1 2 ((.iface 64 (.pointer (some ⟨b32, 0, none⟩)))) bd42 f46 (by kernel_rfl) (by kernel_rfl) rfl (by kernel_rfl) (Nat.le_of_ble_eq_true rfl) ?_)
        intro h47 p48 o49
        have pt50 := pt41.own p48 (one_in (show One b0 b0 from rfl))
        refine lwp_nil ?_
        obtain rfl := Option.some.inj H
        have f51 := r24.up (p35.up pt20.bd (fun _ x => x.elim))
        have f52 := f51.up (up_fz (a := (some ⟨b32, 0, none⟩)))
        have f53 := f52.up (p48.up bd42 (one_not f46.no))
        have f54 := ErrV.up (p48.up bd42 (one_not f46.no)) q43
        show Exists _
        exact ⟨.tuple #[], by kernel_rfl, (Fz I19 (some ⟨b32, 0, none⟩)), a1, c2, ((.iface 64 (.pointer (some ⟨b32, 0, none⟩)))), rfl, pt50, f53, f54, o49⟩

/-! (*shutter/bytes.Cursor).Take -/
def bytes_Cursor_Take.m (x0 : bytes_Cursor) (x1 : Int) : Option ((List Int) × bytes_Cursor) :=
  (letJ (fun (x62 : List Int) (x67 : Int) (x68 : GoErr) => (if x68 = GoErr.nil then (if 0 ≤ (w64 ((w64 (x67 + x1)) - x1)) then (if (w64 ((w64 (x67 + x1)) - x1)) ≤ (w64 (x67 + x1)) then (if (w64 (x67 + x1)) ≤ (x62.length : Int) then ((slices_Clone_bytes.m (sub x62 (w64 ((w64 (x67 + x1)) - x1)) (w64 (x67 + x1)))).bind fun t90 => (some (t90, (⟨x62, (w64 (x67 + x1)), x68⟩ : bytes_Cursor)))) else none) else none) else none) else (some ([], (⟨x62, x67, x68⟩ : bytes_Cursor))))) fun (j73 : (List Int) → Int → GoErr → Option ((List Int) × bytes_Cursor)) => (if x1 < 0 then ((bytes_Cursor_Fail.m x0 (GoErr.no 2)).bind fun t10 => (j73 t10.b' t10.at' t10.err')) else ((bytes_Cursor_Left.m x0).bind fun t26 => (if x1 > t26.1 then ((bytes_Cursor_Fail.m t26.2 (GoErr.no 2)).bind fun t43 => (j73 t43.b' t43.at' t43.err')) else (j73 t26.2.b' t26.2.at' t26.2.err')))))

set_option maxRecDepth 100000 in
theorem bytes_Cursor_Take.calls {I : Gh} {h : Heap} {b0 : Nat} {x0 : bytes_Cursor} {a1 : Option Addr} {c2 : Nat} {v5 : Value} {x1 : Int} (hB : Bd I h) (o8 : OwnB I h b0 [.slice a1 x0.b'.length c2, .int .i64 x0.at', v5] 62) (r4 : Rd (tInt .u8) I h a1 c2 x0.b') (q7 : ErrV I h x0.err' v5) {r : ((List Int) × bytes_Cursor)}
    (H : bytes_Cursor_Take.m x0 x1 = some r) :
    Ret Tryd.prog 14 #[.pointer (some ⟨b0, 0, none⟩), .int .i64 x1] h (fun v h' => ∃ (I' : Gh) (a111 : Option Addr) (c112 : Nat) (a115 : Option Addr) (c116 : Nat) (v119 : Value), .slice a111 r.1.length c112 = v ∧ Pst (One b0) I h I' h' ∧ Own (tInt .u8) I' h' a111 c112 r.1 ∧ (∀ b, InA a111 b → h.size ≤ b) ∧ Rd (tInt .u8) I' h' a115 c116 r.2.b' ∧ ErrV I' h' r.2.err' v119 ∧ OwnB I' h' b0 [.slice a115 r.2.b'.length c116, .int .i64 r.2.at', v119] 62) := by
  unfold bytes_Cursor_Take.m at H
  refine ret_of (args := [.pointer (some ⟨b0, 0, none⟩), .int .i64 x1]) (rs := [.tmp 4]) (N := 45) Tryd.func14 rfl rfl rfl (Nat.le_of_ble_eq_true rfl) ?_
  have pt0 : Pst (One b0) I h I h := Pst.refl hB
  refine cwp_seq ?_
  refine cwp_region ?_
  refine lwp_run 1 (by kernel_rfl) ?_
  refine lwp_nil ?_
  obtain ⟨j73, e110, H⟩ := letJ_some H
  refine cwp_join (fun ρ' h59 => ∃ (x62 : List Int) (x67 : Int) (x68 : GoErr) (a63 : Option Addr) (c64 : Nat) (v69 : Value) (I60 : Gh), j73 x62 x67 x68 = some r ∧ Fits [(0, .pointer (some ⟨b0, 0, none⟩)), (1, .int .i64 x1)] ρ' ∧ Pst (One b0) I h I60 h59 ∧ Rd (tInt .u8) I60 h59 a63 c64 x62 ∧ ErrV I60 h59 x68 v69 ∧ OwnB I60 h59 b0 [.slice a63 x62.length c64, .int .i64 x67, v69] 62) ?_ ?_
  · refine cwp_seq ?_
    refine cwp_region ?_
    refine lwp_run 1 (by kernel_rfl) ?_
    by_cases c9 : x1 < 0
    · rw [if_pos c9] at H
      refine lwp_op (by kernel_rfl) (owp_pure ((.bool true)) (pr_bool (by kernel_rfl) (decide_eq_true c9)) ?_)
      refine lwp_run 6 (by kernel_rfl) ?_
      refine lwp_nil ?_
      refine cwp_true (by kernel_rfl) ?_
      refine cwp_region ?_
      refine lwp_run 2 (by kernel_rfl) ?_
      obtain ⟨t10, m11, H⟩ := bind_some H
      refine lwp_op (by kernel_rfl) (owp_callF (by kernel_rfl) (bytes_Cursor_Fail.calls hB o8 r4 q7 (show ErrV I h (GoErr.no 2) (.iface 55 (.int .i64 2)) from rfl) m11) ?_)
      rintro v12 h13 ⟨I14, a17, c18, v21, rfl, p15, r20, q23, o24⟩
      have pt25 := pt0.own p15 (one_in (show One b0 b0 from rfl))
      refine lwp_nil ?_
      exact ⟨t10.b', t10.at', t10.err', a17, c18, v21, I14, H, ⟨by kernel_rfl, by kernel_rfl, trivial⟩, pt25, r20, q23, o24⟩
    · rw [if_neg c9] at H
      refine lwp_op (by kernel_rfl) (owp_pure ((.bool false)) (pr_bool (by kernel_rfl) (decide_eq_false c9)) ?_)
      refine lwp_run 3 (by kernel_rfl) ?_
      obtain ⟨t26, m27, H⟩ := bind_some H
      refine lwp_op (by kernel_rfl) (owp_callF (by kernel_rfl) (bytes_Cursor_Left.calls hB o8 r4 q7 m27) ?_)
      rintro v28 h29 ⟨I30, a33, c34, v37, rfl, p31, r36, q39, o40⟩
      have pt41 := pt0.own p31 (one_in (show One b0 b0 from rfl))
      by_cases c42 : x1 > t26.1
      · rw [if_pos c42] at H
        refine lwp_op (by kernel_rfl) (owp_pure ((.bool true)) (pr_bool (by kernel_rfl) (decide_eq_true c42)) ?_)
        refine lwp_run 1 (by kernel_rfl) ?_
        refine lwp_nil ?_
        refine cwp_true (by kernel_rfl) ?_
        refine cwp_region ?_
        refine lwp_run 2 (by kernel_rfl) ?_
        obtain ⟨t43, m44, H⟩ := bind_some H
        refine lwp_op (by kernel_rfl) (owp_callF (by kernel_rfl) (bytes_Cursor_Fail.calls p31.bd o40 r36 q39 (show ErrV I30 h29 (GoErr.no 2) (.iface 55 (.int .i64 2)) from rfl) m44) ?_)
        rintro v45 h46 ⟨I47, a50, c51, v54, rfl, p48, r53, q56, o57⟩
        have pt58 := pt41.own p48 (one_in (show One b0 b0 from rfl))
        refine lwp_nil ?_
        exact ⟨t43.b', t43.at', t43.err', a50, c51, v54, I47, H, ⟨by kernel_rfl, by kernel_rfl, trivial⟩, pt58, r53, q56, o57⟩
      · rw [if_neg c42] at H
        refine lwp_op (by kernel_rfl) (owp_pure ((.bool false)) (pr_bool (by kernel_rfl) (decide_eq_false c42)) ?_)
        refine lwp_run 1 (by kernel_rfl) ?_
        refine lwp_nil ?_
        refine cwp_false (by kernel_rfl) ?_
        refine cwp_skip ?_
        exact ⟨t26.2.b', t26.2.at', t26.2.err', a33, c34, v37, I30, H, ⟨by kernel_rfl, by kernel_rfl, trivial⟩, pt41, r36, q39, o40⟩
  · clear H
    rintro ρ' h59 ⟨x62, x67, x68, a63, c64, v69, I60, H, hf, pt61, r65, q70, o72⟩
    refine cwp_fits _ hf ?_
    subst e110
    try dsimp only at H
    refine cwp_seq ?_
    refine cwp_seq ?_
    refine cwp_region ?_
    refine lwp_run 3 (by kernel_rfl) ?_
    refine lwp_op (by kernel_rfl) (owp_load (by kernel_rfl) (by kernel_rfl) (o72.cell (off := 2) rfl) ?_)
    rcases q70.cases with ⟨c74, rfl⟩ | ⟨c74, t75, u76, rfl⟩
    · rw [if_pos c74] at H
      refine lwp_run 1 (by kernel_rfl) ?_
      refine lwp_nil ?_
      refine cwp_false (by kernel_rfl) ?_
      refine cwp_skip ?_
      refine cwp_seq ?_
      refine cwp_region ?_
      refine lwp_run 3 (by kernel_rfl) ?_
      refine lwp_op (by kernel_rfl) (owp_load (by kernel_rfl) (by kernel_rfl) (o72.cell (off := 1) rfl) ?_)
      refine lwp_run 4 (by kernel_rfl) ?_
      refine lwp_op (by kernel_rfl) (owp_store1 1 (.int .i64 (w64 (x67 + x1))) pt61.bd o72 (by kernel_rfl) (by kernel_rfl) rfl (by kernel_rfl) (Nat.le_of_ble_eq_true rfl) ?_)
      intro h77 p78 o79
      have pt80 := pt61.own p78 (one_in (show One b0 b0 from rfl))
      refine lwp_nil ?_
      refine cwp_seq ?_
      refine cwp_regionD (Keep No h77) (by kernel_rfl) ?_
      refine awp_run (fuel := 14) [0, 1, 2] Keep.refl (by kernel_rfl) ?_
      refine awp_load 3 rfl (by kernel_rfl) (by kernel_rfl) (by kernel_rfl) (by kernel_rfl) Keep.refl (o79.cell (off := 0) rfl) (fun _ _ x => x.elim) ?_
      refine awp_run (fuel := 10) [4, 5, 6] Keep.refl (by kernel_rfl) ?_
      refine awp_load 7 rfl (by kernel_rfl) (by kernel_rfl) (by kernel_rfl) (by kernel_rfl) Keep.refl (o79.cell (off := 1) rfl) (fun _ _ x => x.elim) ?_
      refine awp_run (fuel := 4) [8, 9, 10, 11, 12] Keep.refl (by kernel_rfl) ?_
      refine awp_load 13 rfl (by kernel_rfl) (by kernel_rfl) (by kernel_rfl) (by kernel_rfl) Keep.refl (o79.cell (off := 1) rfl) (fun _ _ x => x.elim) ?_
      obtain ⟨c81, H⟩ := guard_pos H
      obtain ⟨c82, H⟩ := guard_pos H
      obtain ⟨c83, H⟩ := guard_pos H
      have f84 := r65.up (p78.up pt61.bd (one_not o72.no))
      obtain ⟨a87, c88, r86, e89⟩ := f84.part (lo := (w64 ((w64 (x67 + x1)) - x1))) (hi := (w64 (x67 + x1))) c81 c82 c83
      refine awp_pure 14 ((.slice a87 (sub x62 (w64 ((w64 (x67 + x1)) - x1)) (w64 (x67 + x1))).length c88)) rfl (by kernel_rfl) (by kernel_rfl) (pr_slice_lh (e := 5) f84.toSl e89 (by kernel_rfl) (k1 := .i64) (by kernel_rfl) (k2 := .i64) (by kernel_rfl) (by kernel_rfl) (by kernel_rfl) c81 c82 c83) Keep.refl ?_
      obtain ⟨t90, m91, H⟩ := bind_some H
      refine awp_op 15 (by kernel_rfl) rfl (by kernel_rfl) (owp_callF (by kernel_rfl) (slices_Clone_bytes.calls p78.bd r86 m91) ?_)
      rintro v92 h93 ⟨I94, a97, c98, rfl, p95, r100, fr101⟩
      have pt102 := pt80.no p95
      have fr103 := fresh_up fr101 pt80.size
      have d104 := fresh_blk fr101 o79.lt
      have hK105 := Keep.post (M := No) Keep.refl (Nat.le_refl _) p95 (fun _ x => x.elim)
      refine ⟨hK105, ?_⟩
      refine awp_run (fuel := 0) [16] hK105 (by kernel_rfl) ?_
      refine awp_nil (by kernel_rfl) ?_ 0
      refine cwp_ret ?_
      obtain rfl := Option.some.inj H
      have f106 := f84.up (p95.up p78.bd (fun _ x => x.elim))
      have f107 := ErrV.up (p78.up pt61.bd (one_not o72.no)) q70
      have f108 := ErrV.up (p95.up p78.bd (fun _ x => x.elim)) f107
      have f109 := o79.post p95 (fun x => x.elim)
      show Exists _
      exact ⟨.slice a97 t90.length c98, by kernel_rfl, I94, a97, c98, a63, c64, (.nilIface), rfl, pt102, r100, fr103, f106, f108, f109⟩
    · rw [if_neg c74] at H
      refine lwp_run 1 (by kernel_rfl) ?_
      refine lwp_nil ?_
      refine cwp_true (by kernel_rfl) ?_
      refine cwp_seq ?_
      refine cwp_region ?_
      refine lwp_run 1 (by kernel_rfl) ?_
      refine lwp_nil ?_
      refine cwp_ret ?_
      obtain rfl := Option.some.inj H
      show Exists _
      exact ⟨.slice none 0 0, by kernel_rfl, I60, none, 0, a63, c64, ((.iface t75 u76)), rfl, pt61, (own_nil (tInt .u8) I60 h59), none_fresh, r65, q70, o72⟩

/-! shutter/attr.Char -/
def attr_Char.m (x0 : Int) : Option Bool :=
  (if x0 = 0 then (some true) else (if x0 = 28 then (some true) else (if x0 = 30 then (some true) else (if x0 ≥ 64 then (some (x0 != 255)) else (some false)))))

set_option maxRecDepth 100000 in
theorem attr_Char.calls {I : Gh} {h : Heap} {x0 : Int} (_hB : Bd I h)  {r : Bool}
    (H : attr_Char.m x0 = some r) :
    Ret Tryd.prog 34 #[.int .u8 x0] h (fun v h' => ∃ _ : Unit, .bool r = v ∧ h = h') := by
  unfold attr_Char.m at H
  refine ret_of (args := [.int .u8 x0]) (rs := [.tmp 2]) (N := 15) Tryd.func34 rfl rfl rfl (Nat.le_of_ble_eq_true rfl) ?_
  refine cwp_seq ?_
  refine cwp_region ?_
  refine lwp_run 1 (by kernel_rfl) ?_
  refine lwp_nil ?_
  refine cwp_seq ?_
  refine cwp_seq ?_
  refine cwp_region ?_
  refine lwp_run 1 (by kernel_rfl) ?_
  refine lwp_nil ?_
  refine cwp_block ?_
  refine cwp_seq ?_
  refine cwp_block ?_
  refine cwp_block ?_
  refine cwp_seq ?_
  refine cwp_seq ?_
  refine cwp_seq ?_
  refine cwp_region ?_
  by_cases c1 : x0 = 0
  · rw [if_pos c1] at H
    refine lwp_op (by kernel_rfl) (owp_pure ((.bool true)) (pr_bool (by kernel_rfl) (eqT c1)) ?_)
    refine lwp_run 1 (by kernel_rfl) ?_
    refine lwp_nil ?_
    refine cwp_true (by kernel_rfl) ?_
    refine cwp_exit ?_
    refine cwp_seq ?_
    refine cwp_seq ?_
    refine cwp_region ?_
    refine lwp_run 1 (by kernel_rfl) ?_
    refine lwp_nil ?_
    refine cwp_ret ?_
    obtain rfl := Option.some.inj H
    show Exists _
    exact ⟨.bool true, by kernel_rfl, (), rfl, rfl⟩
  · rw [if_neg c1] at H
    refine lwp_op (by kernel_rfl) (owp_pure ((.bool false)) (pr_bool (by kernel_rfl) (eqF c1)) ?_)
    refine lwp_run 1 (by kernel_rfl) ?_
    refine lwp_nil ?_
    refine cwp_false (by kernel_rfl) ?_
    refine cwp_skip ?_
    refine cwp_seq ?_
    refine cwp_seq ?_
    refine cwp_region ?_
    by_cases c2 : x0 = 28
    · rw [if_pos c2] at H
      refine lwp_op (by kernel_rfl) (owp_pure ((.bool true)) (pr_bool (by kernel_rfl) (eqT c2)) ?_)
      refine lwp_run 1 (by kernel_rfl) ?_
      refine lwp_nil ?_
      refine cwp_true (by kernel_rfl) ?_
      refine cwp_skip ?_
      refine cwp_true (by kernel_rfl) ?_
      refine cwp_exit ?_
      refine cwp_seq ?_
      refine cwp_seq ?_
      refine cwp_region ?_
      refine lwp_run 1 (by kernel_rfl) ?_
      refine lwp_nil ?_
      refine cwp_ret ?_
      obtain rfl := Option.some.inj H
      show Exists _
      exact ⟨.bool true, by kernel_rfl, (), rfl, rfl⟩
    · rw [if_neg c2] at H
      refine lwp_op (by kernel_rfl) (owp_pure ((.bool false)) (pr_bool (by kernel_rfl) (eqF c2)) ?_)
      refine lwp_run 1 (by kernel_rfl) ?_
      refine lwp_nil ?_
      refine cwp_false (by kernel_rfl) ?_
      refine cwp_region ?_
      by_cases c3 : x0 = 30
      · rw [if_pos c3] at H
        refine lwp_op (by kernel_rfl) (owp_pure ((.bool true)) (pr_bool (by kernel_rfl) (eqT c3)) ?_)
        refine lwp_run 1 (by kernel_rfl) ?_
        refine lwp_nil ?_
        refine cwp_true (by kernel_rfl) ?_
        refine cwp_exit ?_
        refine cwp_seq ?_
        refine cwp_seq ?_
        refine cwp_region ?_
        refine lwp_run 1 (by kernel_rfl) ?_
        refine lwp_nil ?_
        refine cwp_ret ?_
        obtain rfl := Option.some.inj H
        show Exists _
        exact ⟨.bool true, by kernel_rfl, (), rfl, rfl⟩
      · rw [if_neg c3] at H
        refine lwp_op (by kernel_rfl) (owp_pure ((.bool false)) (pr_bool (by kernel_rfl) (eqF c3)) ?_)
        refine lwp_run 1 (by kernel_rfl) ?_
        refine lwp_nil ?_
        refine cwp_false (by kernel_rfl) ?_
        refine cwp_skip ?_
        refine cwp_exit ?_
        refine cwp_seq ?_
        refine cwp_region ?_
        refine lwp_run 1 (by kernel_rfl) ?_
        by_cases c4 : x0 ≥ 64
        · rw [if_pos c4] at H
          refine lwp_op (by kernel_rfl) (owp_pure ((.bool true)) (pr_bool (by kernel_rfl) (decide_eq_true c4)) ?_)
          refine lwp_run 5 (by kernel_rfl) ?_
          refine lwp_nil ?_
          refine cwp_ret ?_
          obtain rfl := Option.some.inj H
          show Exists _
          exact ⟨.bool (x0 != 255), by kernel_rfl, (), rfl, rfl⟩
        · rw [if_neg c4] at H
          refine lwp_op (by kernel_rfl) (owp_pure ((.bool false)) (pr_bool (by kernel_rfl) (decide_eq_false c4)) ?_)
          refine lwp_run 5 (by kernel_rfl) ?_
          refine lwp_nil ?_
          refine cwp_ret ?_
          obtain rfl := Option.some.inj H
          show Exists _
          exact ⟨.bool false, by kernel_rfl, (), rfl, rfl⟩

/-! (*shutter/bytes.Cursor).Chars$1 -/
def bytes_Cursor_Chars_1.m (x0 : Int) : Option Bool :=
  ((attr_Char.m x0).bind fun t1 => (some (!t1)))

set_option maxRecDepth 100000 in
theorem bytes_Cursor_Chars_1.calls {I : Gh} {h : Heap} {x0 : Int} (hB : Bd I h)  {r : Bool}
    (H : bytes_Cursor_Chars_1.m x0 = some r) :
    Ret Tryd.prog 33 #[.int .u8 x0] h (fun v h' => ∃ _ : Unit, .bool r = v ∧ h = h') := by
  unfold bytes_Cursor_Chars_1.m at H
  refine ret_of (args := [.int .u8 x0]) (rs := [.tmp 2]) (N := 6) Tryd.func33 rfl rfl rfl (Nat.le_of_ble_eq_true rfl) ?_
  refine cwp_seq ?_
  refine cwp_region ?_
  refine lwp_run 1 (by kernel_rfl) ?_
  refine lwp_nil ?_
  refine cwp_seq ?_
  refine cwp_region ?_
  refine lwp_run 1 (by kernel_rfl) ?_
  obtain ⟨t1, m2, H⟩ := bind_some H
  refine lwp_op (by kernel_rfl) (owp_callF (by kernel_rfl) (attr_Char.calls hB m2) ?_)
  rintro v3 h4 ⟨_, rfl, rfl⟩
  refine lwp_run 2 (by kernel_rfl) ?_
  refine lwp_nil ?_
  refine cwp_ret ?_
  obtain rfl := Option.some.inj H
  show Exists _
  exact ⟨.bool (!t1), by kernel_rfl, (), rfl, rfl⟩

/-! slices.IndexFunc[[]byte,byte] -/
def slices_IndexFunc_bytes__bytes_Cursor_Chars_1.l1.m (K : Nat) (x0 : (List Int)) : Nat → Int → Option (Int ⊕ (Unit))
  | 0, _ => none
  | k + 1, x8 => (letJ (fun (x20 : Bool) => (bif x20 then (if 0 ≤ x8 then (if x8 < (x0.length : Int) then ((bytes_Cursor_Chars_1.m (at_ x0 x8)).bind fun t28 => bif t28 then (some (Sum.inl x8)) else (slices_IndexFunc_bytes__bytes_Cursor_Chars_1.l1.m K x0 k (w64 (x8 + 1)))) else none) else none) else (some (Sum.inr ())))) fun (j21 : Bool → Option (Int ⊕ (Unit))) => (if x8 < (x0.length : Int) then (j21 true) else (j21 false)))
def slices_IndexFunc_bytes__bytes_Cursor_Chars_1.m (K : Nat) (x0 : (List Int)) : Option Int :=
  ((slices_IndexFunc_bytes__bytes_Cursor_Chars_1.l1.m K x0 K 0).bind fun s10 => match s10 with | .inl q => (some q) | .inr _ => (some (-1)))

set_option maxRecDepth 100000 in
theorem slices_IndexFunc_bytes__bytes_Cursor_Chars_1.calls {I : Gh} {h : Heap} {K : Nat} {x0 : List Int} {a1 : Option Addr} {c2 : Nat} (hB : Bd I h) (r4 : Rd (tInt .u8) I h a1 c2 x0) {r : Int}
    (H : slices_IndexFunc_bytes__bytes_Cursor_Chars_1.m K x0 = some r) :
    Ret Tryd.prog 32 #[.slice a1 x0.length c2, .func (.func 33) #[] #[]] h (fun v h' => ∃ _ : Unit, .int .i64 r = v ∧ h = h') := by
  unfold slices_IndexFunc_bytes__bytes_Cursor_Chars_1.m at H
  refine ret_of (args := [.slice a1 x0.length c2, .func (.func 33) #[] #[]]) (rs := [.tmp 4]) (N := 19) Tryd.func32 rfl rfl rfl (Nat.le_of_ble_eq_true rfl) ?_
  refine cwp_seq ?_
  refine cwp_region ?_
  refine lwp_run 1 (by kernel_rfl) ?_
  refine lwp_nil ?_
  refine cwp_seq ?_
  refine cwp_seq ?_
  refine cwp_region ?_
  refine lwp_run 3 (by kernel_rfl) ?_
  refine lwp_nil ?_
  refine cwp_block ?_
  obtain ⟨s10, m14, HR15⟩ := bind_some H
  refine cwp_loopE 0 (fun ρ' h11 => ∃ (_ : Unit), Sum.inr () = s10 ∧ Fits [] ρ' ∧ h = h11) ?_ ?_
  · refine cwp_loop (fun k' ρ' h5 => ∃ (x8 : Int) (_ : Unit), slices_IndexFunc_bytes__bytes_Cursor_Chars_1.l1.m K x0 k' x8 = some s10 ∧ Fits [(0, .slice a1 x0.length c2), (1, .func (.func 33) #[] #[]), (7, .int .i64 (x0.length : Int)), (8, .int .i64 x8)] ρ' ∧ h = h5) K ⟨0, (), m14, ⟨by kernel_rfl, by kernel_rfl, by kernel_rfl, by kernel_rfl, trivial⟩, rfl⟩ ?_
    clear m14
    rintro k' ρ' h5 ⟨x8, _, H, hf, rfl⟩
    cases k' with
    | zero => cases H
    | succ k =>
      rw [slices_IndexFunc_bytes__bytes_Cursor_Chars_1.l1.m] at H
      refine cwp_fits _ hf ?_
      obtain ⟨j21, e34, H⟩ := letJ_some H
      refine cwp_join (fun ρ' h17 => ∃ (x20 : Bool) (_ : Unit), j21 x20 = some s10 ∧ Fits [(0, .slice a1 x0.length c2), (1, .func (.func 33) #[] #[]), (7, .int .i64 (x0.length : Int)), (8, .int .i64 x8), (9, .bool x20)] ρ' ∧ h = h17) ?_ ?_
      · refine cwp_region ?_
        by_cases c16 : x8 < (x0.length : Int)
        · rw [if_pos c16] at H
          refine lwp_op (by kernel_rfl) (owp_pure ((.bool true)) (pr_bool (by kernel_rfl) (decide_eq_true c16)) ?_)
          refine lwp_nil ?_
          exact ⟨true, (), H, ⟨by kernel_rfl, by kernel_rfl, by kernel_rfl, by kernel_rfl, by kernel_rfl, trivial⟩, rfl⟩
        · rw [if_neg c16] at H
          refine lwp_op (by kernel_rfl) (owp_pure ((.bool false)) (pr_bool (by kernel_rfl) (decide_eq_false c16)) ?_)
          refine lwp_nil ?_
          exact ⟨false, (), H, ⟨by kernel_rfl, by kernel_rfl, by kernel_rfl, by kernel_rfl, by kernel_rfl, trivial⟩, rfl⟩
      · clear H
        rintro ρ' h17 ⟨x20, _, H, hf, rfl⟩
        refine cwp_fits _ hf ?_
        subst e34
        try dsimp only at H
        refine cwp_seq ?_
        cases x20
        · rw [cond_false] at H
          refine cwp_false (by kernel_rfl) ?_
          refine cwp_exit ?_
          obtain rfl := Option.some.inj H
          show Exists _
          exact ⟨(), rfl, trivial, rfl⟩
        · rw [cond_true] at H
          refine cwp_true (by kernel_rfl) ?_
          refine cwp_skip ?_
          refine cwp_seq ?_
          refine cwp_block ?_
          refine cwp_seq ?_
          refine cwp_region ?_
          refine lwp_run 2 (by kernel_rfl) ?_
          refine lwp_nil ?_
          refine cwp_seq ?_
          refine cwp_region ?_
          obtain ⟨c22, H⟩ := guard_pos H
          obtain ⟨c23, H⟩ := guard_pos H
          refine lwp_run 3 (by kernel_rfl) ?_
          have hs24 := r4.isSome c22 c23
          refine lwp_op (by kernel_rfl) (owp_pure (elemPtr a1 (x8.toNat * 1)) (pr_indexElem (e := 5) r4.toSl (k := .i64) (by kernel_rfl) (by kernel_rfl) (by kernel_rfl) (by kernel_rfl) c22 c23) ?_)
          obtain ⟨cs25, hs26, rp27⟩ := r4.toSl.seg c22 c23
          obtain rfl := rep_int rp27
          refine lwp_op (by kernel_rfl) (owp_load (by kernel_rfl) (by kernel_rfl) (seg_cell (f := 0) hs26 rfl) ?_)
          obtain ⟨t28, m29, H⟩ := bind_some H
          refine lwp_op (by kernel_rfl) (owp_callF (by kernel_rfl) (bytes_Cursor_Chars_1.calls hB m29) ?_)
          rintro v30 h31 ⟨_, rfl, rfl⟩
          cases t28
          · rw [cond_false] at H
            refine lwp_nil ?_
            refine cwp_false (by kernel_rfl) ?_
            refine cwp_skip ?_
            refine cwp_region ?_
            refine lwp_run 2 (by kernel_rfl) ?_
            refine lwp_nil ?_
            show Exists _
            exact ⟨k, Nat.lt_succ_self _, (w64 (x8 + 1)), (), H, ⟨by kernel_rfl, by kernel_rfl, by kernel_rfl, by kernel_rfl, trivial⟩, rfl⟩
          · rw [cond_true] at H
            refine lwp_nil ?_
            refine cwp_true (by kernel_rfl) ?_
            refine cwp_seq ?_
            refine cwp_region ?_
            refine lwp_run 2 (by kernel_rfl) ?_
            refine lwp_nil ?_
            refine cwp_ret ?_
            obtain rfl := Option.some.inj H
            obtain rfl := Option.some.inj HR15
            show Exists _
            exact ⟨.int .i64 x8, by kernel_rfl, (), rfl, rfl⟩
  · rintro ρ' h11 ⟨_, rfl, hf, rfl⟩
    have H := HR15
    try dsimp only at H
    refine cwp_fits _ hf ?_
    refine cwp_seq ?_
    refine cwp_region ?_
    refine lwp_run 1 (by kernel_rfl) ?_
    refine lwp_nil ?_
    refine cwp_ret ?_
    obtain rfl := Option.some.inj H
    show Exists _
    exact ⟨.int .i64 (-1), by kernel_rfl, (), rfl, rfl⟩

/-! (*shutter/bytes.Cursor).Chars -/
def bytes_Cursor_Chars.m (K : Nat) (x0 : bytes_Cursor) : Option ((List Int) × bytes_Cursor) :=
  (if x0.err' = GoErr.nil then (if 0 ≤ x0.at' then (if x0.at' ≤ (x0.b'.length : Int) then ((slices_IndexFunc_bytes__bytes_Cursor_Chars_1.m K (sub x0.b' x0.at' (x0.b'.length : Int))).bind fun t19 => (if t19 < 0 then ((bytes_Cursor_Left.m x0).bind fun t26 => ((bytes_Cursor_Take.m t26.2 t26.1).bind fun t42 => (some (t42.1, t42.2)))) else ((bytes_Cursor_Take.m x0 t19).bind fun t65 => (some (t65.1, t65.2))))) else none) else none) else (some ([], x0)))

set_option maxRecDepth 100000 in
theorem bytes_Cursor_Chars.calls {I : Gh} {h : Heap} {K : Nat} {b0 : Nat} {x0 : bytes_Cursor} {a1 : Option Addr} {c2 : Nat} {v5 : Value} (hB : Bd I h) (o8 : OwnB I h b0 [.slice a1 x0.b'.length c2, .int .i64 x0.at', v5] 62) (r4 : Rd (tInt .u8) I h a1 c2 x0.b') (q7 : ErrV I h x0.err' v5) {r : ((List Int) × bytes_Cursor)}
    (H : bytes_Cursor_Chars.m K x0 = some r) :
    Ret Tryd.prog 15 #[.pointer (some ⟨b0, 0, none⟩)] h (fun v h' => ∃ (I' : Gh) (a88 : Option Addr) (c89 : Nat) (a92 : Option Addr) (c93 : Nat) (v96 : Value), .slice a88 r.1.length c89 = v ∧ Pst (One b0) I h I' h' ∧ Own (tInt .u8) I' h' a88 c89 r.1 ∧ (∀ b, InA a88 b → h.size ≤ b) ∧ Rd (tInt .u8) I' h' a92 c93 r.2.b' ∧ ErrV I' h' r.2.err' v96 ∧ OwnB I' h' b0 [.slice a92 r.2.b'.length c93, .int .i64 r.2.at', v96] 62) := by
  unfold bytes_Cursor_Chars.m at H
  refine ret_of (args := [.pointer (some ⟨b0, 0, none⟩)]) (rs := [.tmp 2]) (N := 26) Tryd.func15 rfl rfl rfl (Nat.le_of_ble_eq_true rfl) ?_
  have pt0 : Pst (One b0) I h I h := Pst.refl hB
  refine cwp_seq ?_
  refine cwp_region ?_
  refine lwp_run 1 (by kernel_rfl) ?_
  refine lwp_nil ?_
  refine cwp_seq ?_
  refine cwp_seq ?_
  refine cwp_region ?_
  refine lwp_run 3 (by kernel_rfl) ?_
  refine lwp_op (by kernel_rfl) (owp_load (by kernel_rfl) (by kernel_rfl) (o8.cell (off := 2) rfl) ?_)
  rcases q7.cases with ⟨c9, rfl⟩ | ⟨c9, t10, u11, rfl⟩
  · rw [if_pos c9] at H
    refine lwp_run 1 (by kernel_rfl) ?_
    refine lwp_nil ?_
    refine cwp_false (by kernel_rfl) ?_
    refine cwp_skip ?_
    refine cwp_seq ?_
    refine cwp_regionD (Keep No h) (by kernel_rfl) ?_
    refine awp_run (fuel := 8) [0, 1, 2] Keep.refl (by kernel_rfl) ?_
    refine awp_load 3 rfl (by kernel_rfl) (by kernel_rfl) (by kernel_rfl) (by kernel_rfl) Keep.refl (o8.cell (off := 0) rfl) (fun _ _ x => x.elim) ?_
    refine awp_run (fuel := 4) [4, 5, 6] Keep.refl (by kernel_rfl) ?_
    refine awp_load 7 rfl (by kernel_rfl) (by kernel_rfl) (by kernel_rfl) (by kernel_rfl) Keep.refl (o8.cell (off := 1) rfl) (fun _ _ x => x.elim) ?_
    obtain ⟨c12, H⟩ := guard_pos H
    obtain ⟨c13, H⟩ := guard_pos H
    obtain ⟨a16, c17, r15, e18⟩ := r4.part (lo := x0.at') (hi := (x0.b'.length : Int)) c12 c13 (Int.le_refl _)
    refine awp_pure 8 ((.slice a16 (sub x0.b' x0.at' (x0.b'.length : Int)).length c17)) rfl (by kernel_rfl) (by kernel_rfl) (pr_slice_l (e := 5) r4.toSl e18 (by kernel_rfl) (k1 := .i64) (by kernel_rfl) (by kernel_rfl) (by kernel_rfl) c12 c13 (Int.le_refl _)) Keep.refl ?_
    obtain ⟨t19, m20, H⟩ := bind_some H
    refine awp_op 9 (by kernel_rfl) rfl (by kernel_rfl) (owp_callF (by kernel_rfl) (slices_IndexFunc_bytes__bytes_Cursor_Chars_1.calls hB r15 m20) ?_)
    rintro v21 h22 ⟨_, rfl, rfl⟩
    refine ⟨Keep.refl, ?_⟩
    refine awp_run (fuel := 0) [10] Keep.refl (by kernel_rfl) ?_
    refine awp_nil (by kernel_rfl) ?_ 0
    refine cwp_seq ?_
    refine cwp_seq ?_
    refine cwp_region ?_
    refine lwp_run 1 (by kernel_rfl) ?_
    by_cases c25 : t19 < 0
    · rw [if_pos c25] at H
      refine lwp_op (by kernel_rfl) (owp_pure ((.bool true)) (pr_bool (by kernel_rfl) (decide_eq_true c25)) ?_)
      refine lwp_nil ?_
      refine cwp_true (by kernel_rfl) ?_
      refine cwp_region ?_
      refine lwp_run 1 (by kernel_rfl) ?_
      obtain ⟨t26, m27, H⟩ := bind_some H
      refine lwp_op (by kernel_rfl) (owp_callF (by kernel_rfl) (bytes_Cursor_Left.calls hB o8 r4 q7 m27) ?_)
      rintro v28 h29 ⟨I30, a33, c34, v37, rfl, p31, r36, q39, o40⟩
      have pt41 := pt0.own p31 (one_in (show One b0 b0 from rfl))
      refine lwp_run 1 (by kernel_rfl) ?_
      refine lwp_nil ?_
      refine cwp_seq ?_
      refine cwp_region ?_
      refine lwp_run 2 (by kernel_rfl) ?_
      obtain ⟨t42, m43, H⟩ := bind_some H
      refine lwp_op (by kernel_rfl) (owp_callF (by kernel_rfl) (bytes_Cursor_Take.calls p31.bd o40 r36 q39 m43) ?_)
      rintro v44 h45 ⟨I46, a49, c50, a54, c55, v58, rfl, p47, r52, fr53, r57, q60, o61⟩
      have pt62 := pt41.own p47 (one_in (show One b0 b0 from rfl))
      have fr63 := fresh_up fr53 pt41.size
      have d64 := fresh_blk fr53 o40.lt
      refine lwp_run 1 (by kernel_rfl) ?_
      refine lwp_nil ?_
      refine cwp_ret ?_
      obtain rfl := Option.some.inj H
      show Exists _
      exact ⟨.slice a49 t42.1.length c50, by kernel_rfl, I46, a49, c50, a54, c55, (v58), rfl, pt62, r52, fr63, r57, q60, o61⟩
    · rw [if_neg c25] at H
      refine lwp_op (by kernel_rfl) (owp_pure ((.bool false)) (pr_bool (by kernel_rfl) (decide_eq_false c25)) ?_)
      refine lwp_nil ?_
      refine cwp_false (by kernel_rfl) ?_
      refine cwp_skip ?_
      refine cwp_seq ?_
      refine cwp_region ?_
      refine lwp_run 2 (by kernel_rfl) ?_
      obtain ⟨t65, m66, H⟩ := bind_some H
      refine lwp_op (by kernel_rfl) (owp_callF (by kernel_rfl) (bytes_Cursor_Take.calls hB o8 r4 q7 m66) ?_)
      rintro v67 h68 ⟨I69, a72, c73, a77, c78, v81, rfl, p70, r75, fr76, r80, q83, o84⟩
      have pt85 := pt0.own p70 (one_in (show One b0 b0 from rfl))
      have fr86 := fresh_up fr76 pt0.size
      have d87 := fresh_blk fr76 o8.lt
      refine lwp_run 1 (by kernel_rfl) ?_
      refine lwp_nil ?_
      refine cwp_ret ?_
      obtain rfl := Option.some.inj H
      show Exists _
      exact ⟨.slice a72 t65.1.length c73, by kernel_rfl, I69, a72, c73, a77, c78, (v81), rfl, pt85, r75, fr86, r80, q83, o84⟩
  · rw [if_neg c9] at H
    refine lwp_run 1 (by kernel_rfl) ?_
    refine lwp_nil ?_
    refine cwp_true (by kernel_rfl) ?_
    refine cwp_seq ?_
    refine cwp_region ?_
    refine lwp_run 1 (by kernel_rfl) ?_
    refine lwp_nil ?_
    refine cwp_ret ?_
    obtain rfl := Option.some.inj H
    show Exists _
    exact ⟨.slice none 0 0, by kernel_rfl, I, none, 0, a1, c2, ((.iface t10 u11)), rfl, pt0, (own_nil (tInt .u8) I h), none_fresh, r4, q7, o8⟩

/-! (*shutter/bytes.Cursor).Err -/
def bytes_Cursor_Err.m (x0 : bytes_Cursor) : Option (GoErr × bytes_Cursor) :=
  (some (x0.err', x0))

set_option maxRecDepth 100000 in
theorem bytes_Cursor_Err.calls {I : Gh} {h : Heap} {b0 : Nat} {x0 : bytes_Cursor} {a1 : Option Addr} {c2 : Nat} {v5 : Value} (hB : Bd I h) (o8 : OwnB I h b0 [.slice a1 x0.b'.length c2, .int .i64 x0.at', v5] 62) (r4 : Rd (tInt .u8) I h a1 c2 x0.b') (q7 : ErrV I h x0.err' v5) {r : (GoErr × bytes_Cursor)}
    (H : bytes_Cursor_Err.m x0 = some r) :
    Ret Tryd.prog 17 #[.pointer (some ⟨b0, 0, none⟩)] h (fun v h' => ∃ (I' : Gh) (v9 : Value) (a12 : Option Addr) (c13 : Nat) (v16 : Value), v9 = v ∧ Pst (One b0) I h I' h' ∧ ErrV I' h' r.1 v9 ∧ Rd (tInt .u8) I' h' a12 c13 r.2.b' ∧ ErrV I' h' r.2.err' v16 ∧ OwnB I' h' b0 [.slice a12 r.2.b'.length c13, .int .i64 r.2.at', v16] 62) := by
  unfold bytes_Cursor_Err.m at H
  refine ret_of (args := [.pointer (some ⟨b0, 0, none⟩)]) (rs := [.tmp 2]) (N := 7) Tryd.func17 rfl rfl rfl (Nat.le_of_ble_eq_true rfl) ?_
  have pt0 : Pst (One b0) I h I h := Pst.refl hB
  refine cwp_seq ?_
  refine cwp_region ?_
  refine lwp_run 1 (by kernel_rfl) ?_
  refine lwp_nil ?_
  refine cwp_seq ?_
  refine cwp_region ?_
  refine lwp_run 3 (by kernel_rfl) ?_
  refine lwp_op (by kernel_rfl) (owp_load (by kernel_rfl) (by kernel_rfl) (o8.cell (off := 2) rfl) ?_)
  refine lwp_run 1 (by kernel_rfl) ?_
  refine lwp_nil ?_
  refine cwp_ret ?_
  obtain rfl := Option.some.inj H
  show Exists _
  exact ⟨v5, by kernel_rfl, I, (v5), a1, c2, (v5), rfl, pt0, q7, r4, q7, o8⟩

/-! shutter/api.Code -/
def api_Code.m (x0 : GoErr) : Option Int := some (codeOf x0)
theorem api_Code.calls {I : Gh} {h : Heap} {x0 : GoErr} {v1 : Value} (hB : Bd I h) (hG : Glob I h) (q : ErrV I h x0 v1) {r : Int} (H : api_Code.m x0 = some r) :
    Ret Tryd.prog 24 #[v1] h (fun v h' => ∃ (I' : Gh), .int .i64 r = v ∧ Pst No I h I' h') := by
  obtain rfl := Option.some.inj H
  exact Code_calls hB hG q

/-! shutter/api.Where -/
def api_Where.m (x0 : GoErr) : Option Int := some (whereOf x0)
theorem api_Where.calls {I : Gh} {h : Heap} {x0 : GoErr} {v1 : Value} (hB : Bd I h) (hG : Glob I h) (q : ErrV I h x0 v1) {r : Int} (H : api_Where.m x0 = some r) :
    Ret Tryd.prog 25 #[v1] h (fun v h' => ∃ (I' : Gh), .int .i64 r = v ∧ Pst No I h I' h') := by
  obtain rfl := Option.some.inj H
  exact Where_calls hB hG q

/-! (*shutter/bytes.Cursor).Byte -/
def bytes_Cursor_Byte.m (x0 : bytes_Cursor) : Option (Int × bytes_Cursor) :=
  ((bytes_Cursor_Take.m x0 1).bind fun t9 => (if (t9.1.length : Int) = 0 then (some (0, t9.2)) else (if 0 < (t9.1.length : Int) then (some ((at_ t9.1 0), t9.2)) else none)))

set_option maxRecDepth 100000 in
theorem bytes_Cursor_Byte.calls {I : Gh} {h : Heap} {b0 : Nat} {x0 : bytes_Cursor} {a1 : Option Addr} {c2 : Nat} {v5 : Value} (hB : Bd I h) (o8 : OwnB I h b0 [.slice a1 x0.b'.length c2, .int .i64 x0.at', v5] 62) (r4 : Rd (tInt .u8) I h a1 c2 x0.b') (q7 : ErrV I h x0.err' v5) {r : (Int × bytes_Cursor)}
    (H : bytes_Cursor_Byte.m x0 = some r) :
    Ret Tryd.prog 26 #[.pointer (some ⟨b0, 0, none⟩)] h (fun v h' => ∃ (I' : Gh) (a38 : Option Addr) (c39 : Nat) (v42 : Value), .int .u8 r.1 = v ∧ Pst (One b0) I h I' h' ∧ Rd (tInt .u8) I' h' a38 c39 r.2.b' ∧ ErrV I' h' r.2.err' v42 ∧ OwnB I' h' b0 [.slice a38 r.2.b'.length c39, .int .i64 r.2.at', v42] 62) := by
  unfold bytes_Cursor_Byte.m at H
  refine ret_of (args := [.pointer (some ⟨b0, 0, none⟩)]) (rs := [.tmp 2]) (N := 12) Tryd.func26 rfl rfl rfl (Nat.le_of_ble_eq_true rfl) ?_
  have pt0 : Pst (One b0) I h I h := Pst.refl hB
  refine cwp_seq ?_
  refine cwp_region ?_
  refine lwp_run 1 (by kernel_rfl) ?_
  refine lwp_nil ?_
  refine cwp_seq ?_
  refine cwp_region ?_
  refine lwp_run 1 (by kernel_rfl) ?_
  obtain ⟨t9, m10, H⟩ := bind_some H
  refine lwp_op (by kernel_rfl) (owp_callF (by kernel_rfl) (bytes_Cursor_Take.calls hB o8 r4 q7 m10) ?_)
  rintro v11 h12 ⟨I13, a16, c17, a21, c22, v25, rfl, p14, r19, fr20, r24, q27, o28⟩
  have pt29 := pt0.own p14 (one_in (show One b0 b0 from rfl))
  have fr30 := fresh_up fr20 pt0.size
  have d31 := fresh_blk fr20 o8.lt
  refine lwp_run 1 (by kernel_rfl) ?_
  refine lwp_nil ?_
  refine cwp_seq ?_
  refine cwp_seq ?_
  refine cwp_region ?_
  refine lwp_run 2 (by kernel_rfl) ?_
  by_cases c32 : (t9.1.length : Int) = 0
  · rw [if_pos c32] at H
    refine lwp_op (by kernel_rfl) (owp_pure ((.bool true)) (pr_bool (by kernel_rfl) (eqT c32)) ?_)
    refine lwp_nil ?_
    refine cwp_true (by kernel_rfl) ?_
    refine cwp_seq ?_
    refine cwp_region ?_
    refine lwp_run 1 (by kernel_rfl) ?_
    refine lwp_nil ?_
    refine cwp_ret ?_
    obtain rfl := Option.some.inj H
    show Exists _
    exact ⟨.int .u8 0, by kernel_rfl, I13, a21, c22, (v25), rfl, pt29, r24, q27, o28⟩
  · rw [if_neg c32] at H
    refine lwp_op (by kernel_rfl) (owp_pure ((.bool false)) (pr_bool (by kernel_rfl) (eqF c32)) ?_)
    refine lwp_nil ?_
    refine cwp_false (by kernel_rfl) ?_
    refine cwp_skip ?_
    refine cwp_seq ?_
    refine cwp_region ?_
    obtain ⟨c33, H⟩ := guard_pos H
    refine lwp_run 1 (by kernel_rfl) ?_
    have hs34 := r19.isSome (by decide) c33
    refine lwp_op (by kernel_rfl) (owp_pure (elemPtr a16 ((0 : Int).toNat * 1)) (pr_indexElem (e := 5) r19.toSl (k := .i64) (by kernel_rfl) (by kernel_rfl) (by kernel_rfl) (by kernel_rfl) (by decide) c33) ?_)
    obtain ⟨cs35, hs36, rp37⟩ := r19.toSl.seg (by decide) c33
    obtain rfl := rep_int rp37
    refine lwp_op (by kernel_rfl) (owp_load (by kernel_rfl) (by kernel_rfl) (seg_cell (f := 0) hs36 rfl) ?_)
    refine lwp_run 1 (by kernel_rfl) ?_
    refine lwp_nil ?_
    refine cwp_ret ?_
    obtain rfl := Option.some.inj H
    show Exists _
    exact ⟨.int .u8 (at_ t9.1 0), by kernel_rfl, I13, a21, c22, (v25), rfl, pt29, r24, q27, o28⟩

/-! (*shutter/bytes.Cursor).At -/
def bytes_Cursor_At.m (x0 : bytes_Cursor) : Option (Int × bytes_Cursor) :=
  (some (x0.at', x0))

set_option maxRecDepth 100000 in
theorem bytes_Cursor_At.calls {I : Gh} {h : Heap} {b0 : Nat} {x0 : bytes_Cursor} {a1 : Option Addr} {c2 : Nat} {v5 : Value} (hB : Bd I h) (o8 : OwnB I h b0 [.slice a1 x0.b'.length c2, .int .i64 x0.at', v5] 62) (r4 : Rd (tInt .u8) I h a1 c2 x0.b') (q7 : ErrV I h x0.err' v5) {r : (Int × bytes_Cursor)}
    (H : bytes_Cursor_At.m x0 = some r) :
    Ret Tryd.prog 30 #[.pointer (some ⟨b0, 0, none⟩)] h (fun v h' => ∃ (I' : Gh) (a9 : Option Addr) (c10 : Nat) (v13 : Value), .int .i64 r.1 = v ∧ Pst (One b0) I h I' h' ∧ Rd (tInt .u8) I' h' a9 c10 r.2.b' ∧ ErrV I' h' r.2.err' v13 ∧ OwnB I' h' b0 [.slice a9 r.2.b'.length c10, .int .i64 r.2.at', v13] 62) := by
  unfold bytes_Cursor_At.m at H
  refine ret_of (args := [.pointer (some ⟨b0, 0, none⟩)]) (rs := [.tmp 2]) (N := 7) Tryd.func30 rfl rfl rfl (Nat.le_of_ble_eq_true rfl) ?_
  have pt0 : Pst (One b0) I h I h := Pst.refl hB
  refine cwp_seq ?_
  refine cwp_region ?_
  refine lwp_run 1 (by kernel_rfl) ?_
  refine lwp_nil ?_
  refine cwp_seq ?_
  refine cwp_region ?_
  refine lwp_run 3 (by kernel_rfl) ?_
  refine lwp_op (by kernel_rfl) (owp_load (by kernel_rfl) (by kernel_rfl) (o8.cell (off := 1) rfl) ?_)
  refine lwp_run 1 (by kernel_rfl) ?_
  refine lwp_nil ?_
  refine cwp_ret ?_
  obtain rfl := Option.some.inj H
  show Exists _
  exact ⟨.int .i64 x0.at', by kernel_rfl, I, a1, c2, (v5), rfl, pt0, r4, q7, o8⟩

/-! shutter/shutterlaw06.awake -/
def shutterlaw06_awake.m (K : Nat)  : Option Bool :=
  ((bytes_New.m [64, 193, 17]).bind fun t14 => ((bytes_Cursor_Chars.m K t14).bind fun t33 => ((bytes_Cursor_Byte.m t33.2).bind fun t56 => ((bytes_Cursor_Byte.m t56.2).bind fun t72 => (if (t33.1.length : Int) = 2 then (if 1 < (t33.1.length : Int) then (if (at_ t33.1 1) = 193 then (if t56.1 = 17 then (if t72.1 = 0 then ((bytes_Cursor_Err.m t72.2).bind fun t99 => ((api_Code.m t99.1).bind fun t118 => (if t118 = 2 then ((bytes_Cursor_Err.m t99.2).bind fun t137 => ((api_Where.m t137.1).bind fun t156 => (if t156 = 3 then ((bytes_Cursor_At.m t137.2).bind fun t170 => (some (t170.1 == 3))) else (some false)))) else (some false)))) else (some false)) else (some false)) else (some false)) else none) else (some false))))))

set_option maxRecDepth 100000 in
theorem shutterlaw06_awake.calls {I : Gh} {h : Heap} {K : Nat}  (hB : Bd I h) (hG : Glob I h) {r : Bool}
    (H : shutterlaw06_awake.m K = some r) :
    Ret Tryd.prog 11 #[] h (fun v h' => ∃ (I' : Gh), .bool r = v ∧ Pst No I h I' h') := by
  unfold shutterlaw06_awake.m at H
  refine ret_of (args := []) (rs := [.tmp 0]) (N := 49) Tryd.func11 rfl rfl rfl (Nat.le_of_ble_eq_true rfl) ?_
  have pt0 : Pst No I h I h := Pst.refl hB
  refine cwp_seq ?_
  refine cwp_region ?_
  refine lwp_run 1 (by kernel_rfl) ?_
  refine lwp_nil ?_
  refine cwp_seq ?_
  refine cwp_region ?_
  refine lwp_op (by kernel_rfl) (owp_buildSlice (e := 5) [.int .u8 64, .int .u8 193, .int .u8 17] 1 (.int .u8 0) hB (by kernel_rfl) (by kernel_rfl) (by kernel_rfl) (by kernel_rfl) (by kernel_rfl) ?_)
  intro b1 h2 hc3 p4 o5
  have pt6 := pt0.no p4
  have fr7 := Nat.le_trans pt0.size hc3
  have w8 := o5.own (l := ([64, 193, 17] : List Int)) (Reps.int (k := .u8) (l := [64, 193, 17]))
  have fw8 := some_fresh fr7
  have pt10 := post_fz w8 p4.bd pt6 fw8
  have r12 := w8.rd
  have bd13 := bd_fz w8 p4.bd
  obtain ⟨t14, m15, H⟩ := bind_some H
  refine lwp_op (by kernel_rfl) (owp_callF (by kernel_rfl) (bytes_New.calls bd13 r12 m15) ?_)
  rintro v16 h17 ⟨I18, b21, a22, c23, v26, rfl, p19, r25, q28, o29, fr30⟩
  have pt31 := pt10.no p19
  have fr32 := Nat.le_trans pt10.size fr30
  refine lwp_run 1 (by kernel_rfl) ?_
  refine lwp_nil ?_
  refine cwp_seq ?_
  refine cwp_seq ?_
  refine cwp_region ?_
  refine lwp_run 2 (by kernel_rfl) ?_
  refine lwp_nil ?_
  refine cwp_false (by kernel_rfl) ?_
  refine cwp_skip ?_
  refine cwp_seq ?_
  refine cwp_region ?_
  refine lwp_run 1 (by kernel_rfl) ?_
  obtain ⟨t33, m34, H⟩ := bind_some H
  refine lwp_op (by kernel_rfl) (owp_callF (by kernel_rfl) (bytes_Cursor_Chars.calls p19.bd o29 r25 q28 m34) ?_)
  rintro v35 h36 ⟨I37, a40, c41, a45, c46, v49, rfl, p38, r43, fr44, r48, q51, o52⟩
  have pt53 := pt31.own p38 (one_fresh fr32)
  have fr54 := fresh_up fr44 pt31.size
  have d55 := fresh_blk fr44 o29.lt
  refine lwp_run 1 (by kernel_rfl) ?_
  refine lwp_nil ?_
  refine cwp_seq ?_
  refine cwp_region ?_
  refine lwp_run 1 (by kernel_rfl) ?_
  obtain ⟨t56, m57, H⟩ := bind_some H
  refine lwp_op (by kernel_rfl) (owp_callF (by kernel_rfl) (bytes_Cursor_Byte.calls p38.bd o52 r48 q51 m57) ?_)
  rintro v58 h59 ⟨I60, a63, c64, v67, rfl, p61, r66, q69, o70⟩
  have pt71 := pt53.own p61 (one_fresh fr32)
  refine lwp_run 1 (by kernel_rfl) ?_
  refine lwp_nil ?_
  refine cwp_seq ?_
  refine cwp_region ?_
  refine lwp_run 1 (by kernel_rfl) ?_
  obtain ⟨t72, m73, H⟩ := bind_some H
  refine lwp_op (by kernel_rfl) (owp_callF (by kernel_rfl) (bytes_Cursor_Byte.calls p61.bd o70 r66 q69 m73) ?_)
  rintro v74 h75 ⟨I76, a79, c80, v83, rfl, p77, r82, q85, o86⟩
  have pt87 := pt71.own p77 (one_fresh fr32)
  refine lwp_run 1 (by kernel_rfl) ?_
  refine lwp_nil ?_
  refine cwp_seq ?_
  refine cwp_region ?_
  refine lwp_run 2 (by kernel_rfl) ?_
  by_cases c88 : (t33.1.length : Int) = 2
  · rw [if_pos c88] at H
    refine lwp_op (by kernel_rfl) (owp_pure ((.bool true)) (pr_bool (by kernel_rfl) (eqT c88)) ?_)
    obtain ⟨c89, H⟩ := guard_pos H
    refine lwp_run 2 (by kernel_rfl) ?_
    have f90 := r43.post p38.bd p61 (one_not o52.no) (dis_one d55)
    have f91 := f90.post p61.bd p77 (one_not o70.no) (dis_one d55)
    have hs92 := f91.isSome (by decide) c89
    refine lwp_op (by kernel_rfl) (owp_pure (elemPtr a40 ((1 : Int).toNat * 1)) (pr_indexElem (e := 5) f91.toSl (k := .i64) (by kernel_rfl) (by kernel_rfl) (by kernel_rfl) (by kernel_rfl) (by decide) c89) ?_)
    obtain ⟨cs93, hs94, rp95⟩ := f91.toSl.seg (by decide) c89
    obtain rfl := rep_int rp95
    refine lwp_op (by kernel_rfl) (owp_load (by kernel_rfl) (by kernel_rfl) (seg_cell (f := 0) hs94 rfl) ?_)
    by_cases c96 : (at_ t33.1 1) = 193
    · rw [if_pos c96] at H
      refine lwp_op (by kernel_rfl) (owp_pure ((.bool true)) (pr_bool (by kernel_rfl) (eqT c96)) ?_)
      refine lwp_run 3 (by kernel_rfl) ?_
      by_cases c97 : t56.1 = 17
      · rw [if_pos c97] at H
        refine lwp_op (by kernel_rfl) (owp_pure ((.bool true)) (pr_bool (by kernel_rfl) (eqT c97)) ?_)
        refine lwp_run 3 (by kernel_rfl) ?_
        by_cases c98 : t72.1 = 0
        · rw [if_pos c98] at H
          refine lwp_op (by kernel_rfl) (owp_pure ((.bool true)) (pr_bool (by kernel_rfl) (eqT c98)) ?_)
          refine lwp_run 3 (by kernel_rfl) ?_
          obtain ⟨t99, m100, H⟩ := bind_some H
          refine lwp_op (by kernel_rfl) (owp_callF (by kernel_rfl) (bytes_Cursor_Err.calls p77.bd o86 r82 q85 m100) ?_)
          rintro v101 h102 ⟨I103, v106, a109, c110, v113, rfl, p104, q108, r112, q115, o116⟩
          have pt117 := pt87.own p104 (one_fresh fr32)
          obtain ⟨t118, m119, H⟩ := bind_some H
          have f120 := hG.up (p4.up hB (fun _ x => x.elim))
          have f121 := f120.up (up_fz (a := (some ⟨b1, 0, none⟩)))
          have f122 := f121.up (p19.up bd13 (fun _ x => x.elim))
          have f123 := f122.up (p38.up p19.bd (one_not o29.no))
          have f124 := f123.up (p61.up p38.bd (one_not o52.no))
          have f125 := f124.up (p77.up p61.bd (one_not o70.no))
          have f126 := f125.up (p104.up p77.bd (one_not o86.no))
          refine lwp_op (by kernel_rfl) (owp_callF (by kernel_rfl) (api_Code.calls p104.bd f126 q108 m119) ?_)
          rintro v127 h128 ⟨I129, rfl, p130⟩
          have pt132 := pt117.no p130
          by_cases c133 : t118 = 2
          · rw [if_pos c133] at H
            refine lwp_op (by kernel_rfl) (owp_pure ((.bool true)) (pr_bool (by kernel_rfl) (eqT c133)) ?_)
            refine lwp_run 3 (by kernel_rfl) ?_
            have f134 := o116.post p130 (fun x => x.elim)
            have f135 := r112.up (p130.up p104.bd (fun _ x => x.elim))
            have f136 := ErrV.up (p130.up p104.bd (fun _ x => x.elim)) q115
            obtain ⟨t137, m138, H⟩ := bind_some H
            refine lwp_op (by kernel_rfl) (owp_callF (by kernel_rfl) (bytes_Cursor_Err.calls p130.bd f134 f135 f136 m138) ?_)
            rintro v139 h140 ⟨I141, v144, a147, c148, v151, rfl, p142, q146, r150, q153, o154⟩
            have pt155 := pt132.own p142 (one_fresh fr32)
            obtain ⟨t156, m157, H⟩ := bind_some H
            have f158 := f126.up (p130.up p104.bd (fun _ x => x.elim))
            have f159 := f158.up (p142.up p130.bd (one_not f134.no))
            refine lwp_op (by kernel_rfl) (owp_callF (by kernel_rfl) (api_Where.calls p142.bd f159 q146 m157) ?_)
            rintro v160 h161 ⟨I162, rfl, p163⟩
            have pt165 := pt155.no p163
            by_cases c166 : t156 = 3
            · rw [if_pos c166] at H
              refine lwp_op (by kernel_rfl) (owp_pure ((.bool true)) (pr_bool (by kernel_rfl) (eqT c166)) ?_)
              refine lwp_run 3 (by kernel_rfl) ?_
              have f167 := o154.post p163 (fun x => x.elim)
              have f168 := r150.up (p163.up p142.bd (fun _ x => x.elim))
              have f169 := ErrV.up (p163.up p142.bd (fun _ x => x.elim)) q153
              obtain ⟨t170, m171, H⟩ := bind_some H
              refine lwp_op (by kernel_rfl) (owp_callF (by kernel_rfl) (bytes_Cursor_At.calls p163.bd f167 f168 f169 m171) ?_)
              rintro v172 h173 ⟨I174, a177, c178, v181, rfl, p175, r180, q183, o184⟩
              have pt185 := pt165.own p175 (one_fresh fr32)
              refine lwp_run 3 (by kernel_rfl) ?_
              refine lwp_nil ?_
              refine cwp_ret ?_
              obtain rfl := Option.some.inj H
              show Exists _
              exact ⟨.bool (t170.1 == 3), by kernel_rfl, I174, rfl, pt185⟩
            · rw [if_neg c166] at H
              refine lwp_op (by kernel_rfl) (owp_pure ((.bool false)) (pr_bool (by kernel_rfl) (eqF c166)) ?_)
              refine lwp_run 7 (by kernel_rfl) ?_
              refine lwp_nil ?_
              refine cwp_ret ?_
              obtain rfl := Option.some.inj H
              show Exists _
              exact ⟨.bool false, by kernel_rfl, I162, rfl, pt165⟩
          · rw [if_neg c133] at H
            refine lwp_op (by kernel_rfl) (owp_pure ((.bool false)) (pr_bool (by kernel_rfl) (eqF c133)) ?_)
            refine lwp_run 13 (by kernel_rfl) ?_
            refine lwp_nil ?_
            refine cwp_ret ?_
            obtain rfl := Option.some.inj H
            show Exists _
            exact ⟨.bool false, by kernel_rfl, I129, rfl, pt132⟩
        · rw [if_neg c98] at H
          refine lwp_op (by kernel_rfl) (owp_pure ((.bool false)) (pr_bool (by kernel_rfl) (eqF c98)) ?_)
          refine lwp_run 19 (by kernel_rfl) ?_
          refine lwp_nil ?_
          refine cwp_ret ?_
          obtain rfl := Option.some.inj H
          show Exists _
          exact ⟨.bool false, by kernel_rfl, I76, rfl, pt87⟩
      · rw [if_neg c97] at H
        refine lwp_op (by kernel_rfl) (owp_pure ((.bool false)) (pr_bool (by kernel_rfl) (eqF c97)) ?_)
        refine lwp_run 23 (by kernel_rfl) ?_
        refine lwp_nil ?_
        refine cwp_ret ?_
        obtain rfl := Option.some.inj H
        show Exists _
        exact ⟨.bool false, by kernel_rfl, I76, rfl, pt87⟩
    · rw [if_neg c96] at H
      refine lwp_op (by kernel_rfl) (owp_pure ((.bool false)) (pr_bool (by kernel_rfl) (eqF c96)) ?_)
      refine lwp_run 27 (by kernel_rfl) ?_
      refine lwp_nil ?_
      refine cwp_ret ?_
      obtain rfl := Option.some.inj H
      show Exists _
      exact ⟨.bool false, by kernel_rfl, I76, rfl, pt87⟩
  · rw [if_neg c88] at H
    refine lwp_op (by kernel_rfl) (owp_pure ((.bool false)) (pr_bool (by kernel_rfl) (eqF c88)) ?_)
    refine lwp_run 32 (by kernel_rfl) ?_
    refine lwp_nil ?_
    refine cwp_ret ?_
    obtain rfl := Option.some.inj H
    show Exists _
    exact ⟨.bool false, by kernel_rfl, I76, rfl, pt87⟩

/-! shutter/shutterref01.Same -/
def shutterref01_Same.l1.m (K : Nat) (x0 : (List Int)) (x1 : (List Int)) : Nat → Int → Option (Bool ⊕ (Unit))
  | 0, _ => none
  | k + 1, x13 => (if x13 < (x0.length : Int) then (if 0 ≤ x13 then (if x13 < (x1.length : Int) then (if (at_ x0 x13) = (at_ x1 x13) then (shutterref01_Same.l1.m K x0 x1 k (w64 (x13 + 1))) else (some (Sum.inl false))) else none) else none) else (some (Sum.inr ())))
def shutterref01_Same.m (K : Nat) (x0 : (List Int)) (x1 : (List Int)) : Option Bool :=
  (if (x0.length : Int) = (x1.length : Int) then ((shutterref01_Same.l1.m K x0 x1 K 0).bind fun s15 => match s15 with | .inl q => (some q) | .inr _ => (some true)) else (some false))

set_option maxRecDepth 100000 in
theorem shutterref01_Same.calls {I : Gh} {h : Heap} {K : Nat} {x0 : List Int} {a1 : Option Addr} {c2 : Nat} {x1 : List Int} {a5 : Option Addr} {c6 : Nat} (_hB : Bd I h) (r4 : Rd (tInt .u8) I h a1 c2 x0) (r8 : Rd (tInt .u8) I h a5 c6 x1) {r : Bool}
    (H : shutterref01_Same.m K x0 x1 = some r) :
    Ret Tryd.prog 18 #[.slice a1 x0.length c2, .slice a5 x1.length c6] h (fun v h' => ∃ _ : Unit, .bool r = v ∧ h = h') := by
  unfold shutterref01_Same.m at H
  refine ret_of (args := [.slice a1 x0.length c2, .slice a5 x1.length c6]) (rs := [.tmp 4]) (N := 26) Tryd.func18 rfl rfl rfl (Nat.le_of_ble_eq_true rfl) ?_
  refine cwp_seq ?_
  refine cwp_region ?_
  refine lwp_run 1 (by kernel_rfl) ?_
  refine lwp_nil ?_
  refine cwp_seq ?_
  refine cwp_seq ?_
  refine cwp_region ?_
  refine lwp_run 4 (by kernel_rfl) ?_
  by_cases c9 : (x0.length : Int) = (x1.length : Int)
  · rw [if_pos c9] at H
    refine lwp_op (by kernel_rfl) (owp_pure ((.bool false)) (pr_bool (by kernel_rfl) (neF c9)) ?_)
    refine lwp_nil ?_
    refine cwp_false (by kernel_rfl) ?_
    refine cwp_skip ?_
    refine cwp_seq ?_
    refine cwp_seq ?_
    refine cwp_region ?_
    refine lwp_run 1 (by kernel_rfl) ?_
    refine lwp_nil ?_
    refine cwp_block ?_
    obtain ⟨s15, m19, HR20⟩ := bind_some H
    refine cwp_loopE 0 (fun ρ' h16 => ∃ (_ : Unit), Sum.inr () = s15 ∧ Fits [] ρ' ∧ h = h16) ?_ ?_
    · refine cwp_loop (fun k' ρ' h10 => ∃ (x13 : Int) (_ : Unit), shutterref01_Same.l1.m K x0 x1 k' x13 = some s15 ∧ Fits [(0, .slice a1 x0.length c2), (1, .slice a5 x1.length c6), (5, .int .i64 x13)] ρ' ∧ h = h10) K ⟨0, (), m19, ⟨by kernel_rfl, by kernel_rfl, by kernel_rfl, trivial⟩, rfl⟩ ?_
      clear m19
      rintro k' ρ' h10 ⟨x13, _, H, hf, rfl⟩
      cases k' with
      | zero => cases H
      | succ k =>
        rw [shutterref01_Same.l1.m] at H
        refine cwp_fits _ hf ?_
        refine cwp_seq ?_
        refine cwp_seq ?_
        refine cwp_region ?_
        refine lwp_run 3 (by kernel_rfl) ?_
        by_cases c21 : x13 < (x0.length : Int)
        · rw [if_pos c21] at H
          refine lwp_op (by kernel_rfl) (owp_pure ((.bool true)) (pr_bool (by kernel_rfl) (decide_eq_true c21)) ?_)
          refine lwp_nil ?_
          refine cwp_true (by kernel_rfl) ?_
          refine cwp_skip ?_
          refine cwp_seq ?_
          refine cwp_block ?_
          refine cwp_seq ?_
          refine cwp_regionD (Keep No h) (by kernel_rfl) ?_
          obtain ⟨c22, H⟩ := guard_pos H
          refine awp_run (fuel := 7) [0, 1] Keep.refl (by kernel_rfl) ?_
          have hs23 := r4.isSome c22 c21
          refine awp_pure 2 (elemPtr a1 (x13.toNat * 1)) rfl (by kernel_rfl) (by kernel_rfl) (pr_indexElem (e := 5) r4.toSl (k := .i64) (by kernel_rfl) (by kernel_rfl) (by kernel_rfl) (by kernel_rfl) c22 c21) Keep.refl ?_
          obtain ⟨cs24, hs25, rp26⟩ := r4.toSl.seg c22 c21
          obtain rfl := rep_int rp26
          refine awp_load 3 rfl (by kernel_rfl) (by kernel_rfl) (by kernel_rfl) (by kernel_rfl) Keep.refl (seg_cell (f := 0) hs25 rfl) (fun _ _ x => x.elim) ?_
          obtain ⟨c27, H⟩ := guard_pos H
          refine awp_run (fuel := 3) [4, 5] Keep.refl (by kernel_rfl) ?_
          have hs28 := r8.isSome c22 c27
          refine awp_pure 6 (elemPtr a5 (x13.toNat * 1)) rfl (by kernel_rfl) (by kernel_rfl) (pr_indexElem (e := 5) r8.toSl (k := .i64) (by kernel_rfl) (by kernel_rfl) (by kernel_rfl) (by kernel_rfl) c22 c27) Keep.refl ?_
          obtain ⟨cs29, hs30, rp31⟩ := r8.toSl.seg c22 c27
          obtain rfl := rep_int rp31
          refine awp_load 7 rfl (by kernel_rfl) (by kernel_rfl) (by kernel_rfl) (by kernel_rfl) Keep.refl (seg_cell (f := 0) hs30 rfl) (fun _ _ x => x.elim) ?_
          by_cases c32 : (at_ x0 x13) = (at_ x1 x13)
          · rw [if_pos c32] at H
            refine awp_pure 8 ((.bool false)) rfl (by kernel_rfl) (by kernel_rfl) (pr_bool (by kernel_rfl) (neF c32)) Keep.refl ?_
            refine awp_nil (by kernel_rfl) ?_ 0
            refine cwp_false (by kernel_rfl) ?_
            refine cwp_skip ?_
            refine cwp_region ?_
            refine lwp_run 3 (by kernel_rfl) ?_
            refine lwp_nil ?_
            show Exists _
            exact ⟨k, Nat.lt_succ_self _, (w64 (x13 + 1)), (), H, ⟨by kernel_rfl, by kernel_rfl, by kernel_rfl, trivial⟩, rfl⟩
          · rw [if_neg c32] at H
            refine awp_pure 8 ((.bool true)) rfl (by kernel_rfl) (by kernel_rfl) (pr_bool (by kernel_rfl) (neT c32)) Keep.refl ?_
            refine awp_nil (by kernel_rfl) ?_ 0
            refine cwp_true (by kernel_rfl) ?_
            refine cwp_seq ?_
            refine cwp_region ?_
            refine lwp_run 1 (by kernel_rfl) ?_
            refine lwp_nil ?_
            refine cwp_ret ?_
            obtain rfl := Option.some.inj H
            obtain rfl := Option.some.inj HR20
            show Exists _
            exact ⟨.bool false, by kernel_rfl, (), rfl, rfl⟩
        · rw [if_neg c21] at H
          refine lwp_op (by kernel_rfl) (owp_pure ((.bool false)) (pr_bool (by kernel_rfl) (decide_eq_false c21)) ?_)
          refine lwp_nil ?_
          refine cwp_false (by kernel_rfl) ?_
          refine cwp_exit ?_
          obtain rfl := Option.some.inj H
          show Exists _
          exact ⟨(), rfl, trivial, rfl⟩
    · rintro ρ' h16 ⟨_, rfl, hf, rfl⟩
      have H := HR20
      try dsimp only at H
      refine cwp_fits _ hf ?_
      refine cwp_seq ?_
      refine cwp_region ?_
      refine lwp_run 1 (by kernel_rfl) ?_
      refine lwp_nil ?_
      refine cwp_ret ?_
      obtain rfl := Option.some.inj H
      show Exists _
      exact ⟨.bool true, by kernel_rfl, (), rfl, rfl⟩
  · rw [if_neg c9] at H
    refine lwp_op (by kernel_rfl) (owp_pure ((.bool true)) (pr_bool (by kernel_rfl) (neT c9)) ?_)
    refine lwp_nil ?_
    refine cwp_true (by kernel_rfl) ?_
    refine cwp_seq ?_
    refine cwp_region ?_
    refine lwp_run 1 (by kernel_rfl) ?_
    refine lwp_nil ?_
    refine cwp_ret ?_
    obtain rfl := Option.some.inj H
    show Exists _
    exact ⟨.bool false, by kernel_rfl, (), rfl, rfl⟩

/-! shutter/shutterlaw06.BytesTake -/
def shutterlaw06_BytesTake.l1.m (K : Nat) (x1 : (List Int)) : Nat → (List Int) → Int → (List Int) → Int → GoErr → Option ((List Int) × (List Int) × Int × GoErr)
  | 0, _, _, _, _, _ => none
  | k + 1, x62, x68, x69, x74, x75 => (if x68 < (x1.length : Int) then (if 0 ≤ x68 then (letJ (fun (x154 : Int) (x155 : List Int) (x160 : Int) (x161 : GoErr) => ((bytes_Cursor_Take.m (⟨x155, x160, x161⟩ : bytes_Cursor) x154).bind fun t168 => ((app x62 t168.1).bind fun l193 => ((bytes_Cursor_Chars.m K t168.2).bind fun t209 => ((app l193 t209.1).bind fun l236 => (shutterlaw06_BytesTake.l1.m K x1 k l236 (w64 (x68 + 1)) t209.2.b' t209.2.at' t209.2.err')))))) fun (j167 : Int → (List Int) → Int → GoErr → Option ((List Int) × (List Int) × Int × GoErr)) => ((bytes_Cursor_Left.m (⟨x69, x74, x75⟩ : bytes_Cursor)).bind fun t115 => (if (w64 ((at_ x1 x68))) > t115.1 then ((bytes_Cursor_Left.m t115.2).bind fun t132 => (j167 t132.1 t132.2.b' t132.2.at' t132.2.err')) else (j167 (w64 ((at_ x1 x68))) t115.2.b' t115.2.at' t115.2.err')))) else none) else (some ((x62, x69, x74, x75))))
def shutterlaw06_BytesTake.m (K : Nat) (x0 : (List Int)) (x1 : (List Int)) : Option Bool :=
  ((shutterlaw06_awake.m K).bind fun t9 => bif t9 then (if (x0.length : Int) > 300 then ((shutterlaw06_awake.m K).bind fun t18 => (some t18)) else (if (x1.length : Int) > 100 then ((shutterlaw06_awake.m K).bind fun t28 => (some t28)) else ((bytes_New.m x0).bind fun t38 => ((shutterlaw06_BytesTake.l1.m K x1 K [] 0 t38.b' t38.at' t38.err').bind fun (x88, x94, x99, x100) => ((bytes_Cursor_Left.m (⟨x94, x99, x100⟩ : bytes_Cursor)).bind fun t258 => ((bytes_Cursor_Take.m t258.2 t258.1).bind fun t274 => ((app x88 t274.1).bind fun l301 => ((bytes_Cursor_Fail.m t274.2 GoErr.nil).bind fun t317 => ((bytes_Cursor_Err.m t317).bind fun t333 => (if t333.1 = GoErr.nil then ((shutterref01_Same.m K l301 x0).bind fun t367 => bif t367 then ((bytes_Cursor_Left.m t333.2).bind fun t376 => (some (t376.1 == 0))) else (some false)) else (some false))))))))))) else ((shutterlaw06_awake.m K).bind fun t392 => (some t392)))

set_option maxRecDepth 100000 in
theorem shutterlaw06_BytesTake.calls {I : Gh} {h : Heap} {K : Nat} {x0 : List Int} {a1 : Option Addr} {c2 : Nat} {x1 : List Int} {a5 : Option Addr} {c6 : Nat} (hB : Bd I h) (hG : Glob I h) (r4 : Rd (tInt .u8) I h a1 c2 x0) (r8 : Rd (tInt .u8) I h a5 c6 x1) {r : Bool}
    (H : shutterlaw06_BytesTake.m K x0 x1 = some r) :
    Ret Tryd.prog 3 #[.slice a1 x0.length c2, .slice a5 x1.length c6] h (fun v h' => ∃ (I' : Gh), .bool r = v ∧ Pst No I h I' h') := by
  unfold shutterlaw06_BytesTake.m at H
  refine ret_of (args := [.slice a1 x0.length c2, .slice a5 x1.length c6]) (rs := [.tmp 4]) (N := 73) Tryd.func3 rfl rfl rfl (Nat.le_of_ble_eq_true rfl) ?_
  have pt0 : Pst No I h I h := Pst.refl hB
  refine cwp_seq ?_
  refine cwp_region ?_
  refine lwp_run 1 (by kernel_rfl) ?_
  refine lwp_nil ?_
  refine cwp_seq ?_
  refine cwp_seq ?_
  refine cwp_region ?_
  obtain ⟨t9, m10, H⟩ := bind_some H
  refine lwp_op (by kernel_rfl) (owp_callF (by kernel_rfl) (shutterlaw06_awake.calls hB hG m10) ?_)
  rintro v11 h12 ⟨I13, rfl, p14⟩
  have pt16 := pt0.no p14
  cases t9
  · rw [cond_false] at H
    refine lwp_run 11 (by kernel_rfl) ?_
    refine lwp_nil ?_
    refine cwp_true (by kernel_rfl) ?_
    refine cwp_seq ?_
    refine cwp_region ?_
    obtain ⟨t392, m393, H⟩ := bind_some H
    have f394 := hG.up (p14.up hB (fun _ x => x.elim))
    refine lwp_op (by kernel_rfl) (owp_callF (by kernel_rfl) (shutterlaw06_awake.calls p14.bd f394 m393) ?_)
    rintro v395 h396 ⟨I397, rfl, p398⟩
    have pt400 := pt16.no p398
    refine lwp_run 1 (by kernel_rfl) ?_
    refine lwp_nil ?_
    refine cwp_ret ?_
    obtain rfl := Option.some.inj H
    show Exists _
    exact ⟨.bool t392, by kernel_rfl, I397, rfl, pt400⟩
  · rw [cond_true] at H
    refine lwp_run 4 (by kernel_rfl) ?_
    by_cases c17 : (x0.length : Int) > 300
    · rw [if_pos c17] at H
      refine lwp_op (by kernel_rfl) (owp_pure ((.bool true)) (pr_bool (by kernel_rfl) (decide_eq_true c17)) ?_)
      refine lwp_run 6 (by kernel_rfl) ?_
      refine lwp_nil ?_
      refine cwp_true (by kernel_rfl) ?_
      refine cwp_seq ?_
      refine cwp_region ?_
      obtain ⟨t18, m19, H⟩ := bind_some H
      have f20 := hG.up (p14.up hB (fun _ x => x.elim))
      refine lwp_op (by kernel_rfl) (owp_callF (by kernel_rfl) (shutterlaw06_awake.calls p14.bd f20 m19) ?_)
      rintro v21 h22 ⟨I23, rfl, p24⟩
      have pt26 := pt16.no p24
      refine lwp_run 1 (by kernel_rfl) ?_
      refine lwp_nil ?_
      refine cwp_ret ?_
      obtain rfl := Option.some.inj H
      show Exists _
      exact ⟨.bool t18, by kernel_rfl, I23, rfl, pt26⟩
    · rw [if_neg c17] at H
      refine lwp_op (by kernel_rfl) (owp_pure ((.bool false)) (pr_bool (by kernel_rfl) (decide_eq_false c17)) ?_)
      refine lwp_run 4 (by kernel_rfl) ?_
      by_cases c27 : (x1.length : Int) > 100
      · rw [if_pos c27] at H
        refine lwp_op (by kernel_rfl) (owp_pure ((.bool true)) (pr_bool (by kernel_rfl) (decide_eq_true c27)) ?_)
        refine lwp_run 1 (by kernel_rfl) ?_
        refine lwp_nil ?_
        refine cwp_true (by kernel_rfl) ?_
        refine cwp_seq ?_
        refine cwp_region ?_
        obtain ⟨t28, m29, H⟩ := bind_some H
        have f30 := hG.up (p14.up hB (fun _ x => x.elim))
        refine lwp_op (by kernel_rfl) (owp_callF (by kernel_rfl) (shutterlaw06_awake.calls p14.bd f30 m29) ?_)
        rintro v31 h32 ⟨I33, rfl, p34⟩
        have pt36 := pt16.no p34
        refine lwp_run 1 (by kernel_rfl) ?_
        refine lwp_nil ?_
        refine cwp_ret ?_
        obtain rfl := Option.some.inj H
        show Exists _
        exact ⟨.bool t28, by kernel_rfl, I33, rfl, pt36⟩
      · rw [if_neg c27] at H
        refine lwp_op (by kernel_rfl) (owp_pure ((.bool false)) (pr_bool (by kernel_rfl) (decide_eq_false c27)) ?_)
        refine lwp_run 1 (by kernel_rfl) ?_
        refine lwp_nil ?_
        refine cwp_false (by kernel_rfl) ?_
        refine cwp_skip ?_
        refine cwp_seq ?_
        refine cwp_region ?_
        refine lwp_run 1 (by kernel_rfl) ?_
        have f37 := r4.up (p14.up hB (fun _ x => x.elim))
        obtain ⟨t38, m39, H⟩ := bind_some H
        refine lwp_op (by kernel_rfl) (owp_callF (by kernel_rfl) (bytes_New.calls p14.bd f37 m39) ?_)
        rintro v40 h41 ⟨I42, b45, a46, c47, v50, rfl, p43, r49, q52, o53, fr54⟩
        have pt55 := pt16.no p43
        have fr56 := Nat.le_trans pt16.size fr54
        refine lwp_run 1 (by kernel_rfl) ?_
        refine lwp_nil ?_
        refine cwp_seq ?_
        refine cwp_seq ?_
        refine cwp_region ?_
        refine lwp_run 2 (by kernel_rfl) ?_
        refine lwp_nil ?_
        refine cwp_false (by kernel_rfl) ?_
        refine cwp_skip ?_
        refine cwp_seq ?_
        refine cwp_region ?_
        refine lwp_run 1 (by kernel_rfl) ?_
        refine lwp_nil ?_
        refine cwp_seq ?_
        refine cwp_seq ?_
        refine cwp_region ?_
        refine lwp_run 1 (by kernel_rfl) ?_
        refine lwp_nil ?_
        refine cwp_block ?_
        have f253 := f37.up (p43.up p14.bd (fun _ x => x.elim))
        have f254 := r8.up (p14.up hB (fun _ x => x.elim))
        have f255 := f254.up (p43.up p14.bd (fun _ x => x.elim))
        have f256 := hG.up (p14.up hB (fun _ x => x.elim))
        have f257 := f256.up (p43.up p14.bd (fun _ x => x.elim))
        obtain ⟨s83, m107, HR108⟩ := bind_some H
        refine cwp_loopE 0 (fun ρ' h84 => ∃ (x88 : List Int) (x94 : List Int) (x99 : Int) (x100 : GoErr) (a89 : Option Addr) (c90 : Nat) (a95 : Option Addr) (c96 : Nat) (v101 : Value) (I85 : Gh), (x88, x94, x99, x100) = s83 ∧ Fits [(0, .slice a1 x0.length c2), (5, .pointer (some ⟨b45, 0, none⟩)), (6, .slice a89 x88.length c90)] ρ' ∧ Pst No I h I85 h84 ∧ Rd (tInt .u8) I85 h84 a1 c2 x0 ∧ Own (tInt .u8) I85 h84 a89 c90 x88 ∧ (∀ b, InA a89 b → h.size ≤ b) ∧ Rd (tInt .u8) I85 h84 a95 c96 x94 ∧ ErrV I85 h84 x100 v101 ∧ OwnB I85 h84 b45 [.slice a95 x94.length c96, .int .i64 x99, v101] 62 ∧ ¬ InA a89 b45 ∧ Glob I85 h84) ?_ ?_
        · refine cwp_loop (fun k' ρ' h57 => ∃ (x62 : List Int) (x68 : Int) (x69 : List Int) (x74 : Int) (x75 : GoErr) (a63 : Option Addr) (c64 : Nat) (a70 : Option Addr) (c71 : Nat) (v76 : Value) (I58 : Gh), shutterlaw06_BytesTake.l1.m K x1 k' x62 x68 x69 x74 x75 = some s83 ∧ Fits [(0, .slice a1 x0.length c2), (1, .slice a5 x1.length c6), (5, .pointer (some ⟨b45, 0, none⟩)), (6, .slice a63 x62.length c64), (7, .int .i64 x68)] ρ' ∧ Pst No I h I58 h57 ∧ Rd (tInt .u8) I58 h57 a1 c2 x0 ∧ Rd (tInt .u8) I58 h57 a5 c6 x1 ∧ Own (tInt .u8) I58 h57 a63 c64 x62 ∧ (∀ b, InA a63 b → h.size ≤ b) ∧ Rd (tInt .u8) I58 h57 a70 c71 x69 ∧ ErrV I58 h57 x75 v76 ∧ OwnB I58 h57 b45 [.slice a70 x69.length c71, .int .i64 x74, v76] 62 ∧ ¬ InA a63 b45 ∧ Glob I58 h57) K ⟨[], 0, t38.b', t38.at', t38.err', none, 0, a46, c47, v50, I42, m107, ⟨by kernel_rfl, by kernel_rfl, by kernel_rfl, by kernel_rfl, by kernel_rfl, trivial⟩, pt55, f253, f255, (own_nil (tInt .u8) I42 h41), none_fresh, r49, q52, o53, inA_none, f257⟩ ?_
          clear m107
          rintro k' ρ' h57 ⟨x62, x68, x69, x74, x75, a63, c64, a70, c71, v76, I58, H, hf, pt59, r60, r61, r65, fr67, r72, q77, o79, d80, g81⟩
          cases k' with
          | zero => cases H
          | succ k =>
            rw [shutterlaw06_BytesTake.l1.m] at H
            refine cwp_fits _ hf ?_
            refine cwp_seq ?_
            refine cwp_seq ?_
            refine cwp_region ?_
            refine lwp_run 3 (by kernel_rfl) ?_
            by_cases c109 : x68 < (x1.length : Int)
            · rw [if_pos c109] at H
              refine lwp_op (by kernel_rfl) (owp_pure ((.bool true)) (pr_bool (by kernel_rfl) (decide_eq_true c109)) ?_)
              refine lwp_nil ?_
              refine cwp_true (by kernel_rfl) ?_
              refine cwp_skip ?_
              refine cwp_seq ?_
              refine cwp_block ?_
              refine cwp_seq ?_
              refine cwp_region ?_
              obtain ⟨c110, H⟩ := guard_pos H
              refine lwp_run 2 (by kernel_rfl) ?_
              have hs111 := r61.isSome c110 c109
              refine lwp_op (by kernel_rfl) (owp_pure (elemPtr a5 (x68.toNat * 1)) (pr_indexElem (e := 5) r61.toSl (k := .i64) (by kernel_rfl) (by kernel_rfl) (by kernel_rfl) (by kernel_rfl) c110 c109) ?_)
              obtain ⟨cs112, hs113, rp114⟩ := r61.toSl.seg c110 c109
              obtain rfl := rep_int rp114
              refine lwp_op (by kernel_rfl) (owp_load (by kernel_rfl) (by kernel_rfl) (seg_cell (f := 0) hs113 rfl) ?_)
              refine lwp_run 2 (by kernel_rfl) ?_
              refine lwp_nil ?_
              obtain ⟨j167, e252, H⟩ := letJ_some H
              refine cwp_join (fun ρ' h148 => ∃ (x154 : Int) (x155 : List Int) (x160 : Int) (x161 : GoErr) (a156 : Option Addr) (c157 : Nat) (v162 : Value) (I149 : Gh), j167 x154 x155 x160 x161 = some s83 ∧ Fits [(0, .slice a1 x0.length c2), (1, .slice a5 x1.length c6), (5, .pointer (some ⟨b45, 0, none⟩)), (6, .slice a63 x62.length c64), (7, .int .i64 x68), (8, .int .i64 x154)] ρ' ∧ Pst No I h I149 h148 ∧ Rd (tInt .u8) I149 h148 a1 c2 x0 ∧ Rd (tInt .u8) I149 h148 a5 c6 x1 ∧ Own (tInt .u8) I149 h148 a63 c64 x62 ∧ Rd (tInt .u8) I149 h148 a156 c157 x155 ∧ ErrV I149 h148 x161 v162 ∧ OwnB I149 h148 b45 [.slice a156 x155.length c157, .int .i64 x160, v162] 62 ∧ Glob I149 h148) ?_ ?_
              · refine cwp_seq ?_
                refine cwp_region ?_
                refine lwp_run 2 (by kernel_rfl) ?_
                obtain ⟨t115, m116, H⟩ := bind_some H
                refine lwp_op (by kernel_rfl) (owp_callF (by kernel_rfl) (bytes_Cursor_Left.calls pt59.bd o79 r72 q77 m116) ?_)
                rintro v117 h118 ⟨I119, a122, c123, v126, rfl, p120, r125, q128, o129⟩
                have pt130 := pt59.own p120 (one_fresh fr56)
                by_cases c131 : (w64 ((at_ x1 x68))) > t115.1
                · rw [if_pos c131] at H
                  refine lwp_op (by kernel_rfl) (owp_pure ((.bool true)) (pr_bool (by kernel_rfl) (decide_eq_true c131)) ?_)
                  refine lwp_nil ?_
                  refine cwp_true (by kernel_rfl) ?_
                  refine cwp_region ?_
                  refine lwp_run 1 (by kernel_rfl) ?_
                  obtain ⟨t132, m133, H⟩ := bind_some H
                  refine lwp_op (by kernel_rfl) (owp_callF (by kernel_rfl) (bytes_Cursor_Left.calls p120.bd o129 r125 q128 m133) ?_)
                  rintro v134 h135 ⟨I136, a139, c140, v143, rfl, p137, r142, q145, o146⟩
                  have pt147 := pt130.own p137 (one_fresh fr56)
                  refine lwp_run 1 (by kernel_rfl) ?_
                  refine lwp_nil ?_
                  have f100064 := r60.up (p120.up pt59.bd (one_not o79.no))
                  have f100065 := f100064.up (p137.up p120.bd (one_not o129.no))
                  have f100066 := r61.up (p120.up pt59.bd (one_not o79.no))
                  have f100067 := f100066.up (p137.up p120.bd (one_not o129.no))
                  have f100068 := r65.post pt59.bd p120 (one_not o79.no) (dis_one d80)
                  have f100069 := f100068.post p120.bd p137 (one_not o129.no) (dis_one d80)
                  have f100070 := g81.up (p120.up pt59.bd (one_not o79.no))
                  have f100071 := f100070.up (p137.up p120.bd (one_not o129.no))
                  exact ⟨t132.1, t132.2.b', t132.2.at', t132.2.err', a139, c140, v143, I136, H, ⟨by kernel_rfl, by kernel_rfl, by kernel_rfl, by kernel_rfl, by kernel_rfl, by kernel_rfl, trivial⟩, pt147, f100065, f100067, f100069, r142, q145, o146, f100071⟩
                · rw [if_neg c131] at H
                  refine lwp_op (by kernel_rfl) (owp_pure ((.bool false)) (pr_bool (by kernel_rfl) (decide_eq_false c131)) ?_)
                  refine lwp_nil ?_
                  refine cwp_false (by kernel_rfl) ?_
                  refine cwp_skip ?_
                  have f100072 := r60.up (p120.up pt59.bd (one_not o79.no))
                  have f100073 := r61.up (p120.up pt59.bd (one_not o79.no))
                  have f100074 := r65.post pt59.bd p120 (one_not o79.no) (dis_one d80)
                  have f100075 := g81.up (p120.up pt59.bd (one_not o79.no))
                  exact ⟨(w64 ((at_ x1 x68))), t115.2.b', t115.2.at', t115.2.err', a122, c123, v126, I119, H, ⟨by kernel_rfl, by kernel_rfl, by kernel_rfl, by kernel_rfl, by kernel_rfl, by kernel_rfl, trivial⟩, pt130, f100072, f100073, f100074, r125, q128, o129, f100075⟩
              · clear H
                rintro ρ' h148 ⟨x154, x155, x160, x161, a156, c157, v162, I149, H, hf, pt150, r151, r152, r153, r158, q163, o165, g166⟩
                refine cwp_fits _ hf ?_
                subst e252
                try dsimp only at H
                refine cwp_seq ?_
                refine cwp_region ?_
                refine lwp_run 3 (by kernel_rfl) ?_
                obtain ⟨t168, m169, H⟩ := bind_some H
                refine lwp_op (by kernel_rfl) (owp_callF (by kernel_rfl) (bytes_Cursor_Take.calls pt150.bd o165 r158 q163 m169) ?_)
                rintro v170 h171 ⟨I172, a175, c176, a180, c181, v184, rfl, p173, r178, fr179, r183, q186, o187⟩
                have pt188 := pt150.own p173 (one_fresh fr56)
                have fr189 := fresh_up fr179 pt150.size
                have d190 := fresh_blk fr179 o165.lt
                have d191 := fresh_sl fr179 r153.lt
                have f192 := r153.post pt150.bd p173 (one_not o165.no) (dis_one d80)
                obtain ⟨l193, m194, H⟩ := bind_some H
                refine lwp_op (by kernel_rfl) (owp_app (e := 5) (bytes := 1) (tInt .u8) (by kernel_rfl) (elemOk_of (by kernel_rfl)) rfl rfl p173.bd f192 r178.toSl m194 (by kernel_rfl) (by kernel_rfl) ?_)
                intro a195 c196 h197 p198 o199 fr200
                have pt201 := pt188.own p198 (fun b x => .inr (fr67 b x))
                have fr203 := fresh_step fr67 fr200 pt188.size
                have d204 := step_blk fr200 o187.lt d80
                have d205 := step_sl fr200 r178.lt d191
                refine lwp_run 1 (by kernel_rfl) ?_
                refine lwp_nil ?_
                refine cwp_region ?_
                refine lwp_run 2 (by kernel_rfl) ?_
                have f206 := o187.post p198 d80
                have f207 := r183.up (p198.up p173.bd f192.notI)
                have f208 := ErrV.up (p198.up p173.bd f192.notI) q186
                obtain ⟨t209, m210, H⟩ := bind_some H
                refine lwp_op (by kernel_rfl) (owp_callF (by kernel_rfl) (bytes_Cursor_Chars.calls p198.bd f206 f207 f208 m210) ?_)
                rintro v211 h212 ⟨I213, a216, c217, a221, c222, v225, rfl, p214, r219, fr220, r224, q227, o228⟩
                have pt229 := pt201.own p214 (one_fresh fr56)
                have fr230 := fresh_up fr220 pt201.size
                have d231 := fresh_blk fr220 f206.lt
                have f233 := r178.post p173.bd p198 f192.notI d191
                have d232 := fresh_sl fr220 f233.lt
                have d234 := fresh_sl fr220 o199.lt
                have f235 := o199.post p198.bd p214 (one_not f206.no) (dis_one d204)
                obtain ⟨l236, m237, H⟩ := bind_some H
                refine lwp_op (by kernel_rfl) (owp_app (e := 5) (bytes := 1) (tInt .u8) (by kernel_rfl) (elemOk_of (by kernel_rfl)) rfl rfl p214.bd f235 r219.toSl m237 (by kernel_rfl) (by kernel_rfl) ?_)
                intro a238 c239 h240 p241 o242 fr243
                have pt244 := pt229.own p241 (fun b x => .inr (fr203 b x))
                have fr246 := fresh_step fr203 fr243 pt229.size
                have d247 := step_blk fr243 o228.lt d204
                have f249 := r178.post p173.bd p198 f192.notI d191
                have f250 := f249.post p198.bd p214 (one_not f206.no) (dis_one d190)
                have d248 := step_sl fr243 f250.lt (fun b hx hy => d205 b hy hx)
                have d251 := step_sl fr243 r219.lt d234
                refine lwp_run 1 (by kernel_rfl) ?_
                refine lwp_nil ?_
                refine cwp_region ?_
                refine lwp_run 3 (by kernel_rfl) ?_
                refine lwp_nil ?_
                have f100049 := r151.up (p173.up pt150.bd (one_not o165.no))
                have f100050 := f100049.up (p198.up p173.bd f192.notI)
                have f100051 := f100050.up (p214.up p198.bd (one_not f206.no))
                have f100052 := f100051.up (p241.up p214.bd f235.notI)
                have f100053 := r152.up (p173.up pt150.bd (one_not o165.no))
                have f100054 := f100053.up (p198.up p173.bd f192.notI)
                have f100055 := f100054.up (p214.up p198.bd (one_not f206.no))
                have f100056 := f100055.up (p241.up p214.bd f235.notI)
                have f100057 := r224.up (p241.up p214.bd f235.notI)
                have f100058 := ErrV.up (p241.up p214.bd f235.notI) q227
                have f100059 := o228.post p241 d204
                have f100060 := g166.up (p173.up pt150.bd (one_not o165.no))
                have f100061 := f100060.up (p198.up p173.bd f192.notI)
                have f100062 := f100061.up (p214.up p198.bd (one_not f206.no))
                have f100063 := f100062.up (p241.up p214.bd f235.notI)
                show Exists _
                exact ⟨k, Nat.lt_succ_self _, l236, (w64 (x68 + 1)), t209.2.b', t209.2.at', t209.2.err', a238, c239, a221, c222, v225, I213, H, ⟨by kernel_rfl, by kernel_rfl, by kernel_rfl, by kernel_rfl, by kernel_rfl, trivial⟩, pt244, f100052, f100056, o242, fr246, f100057, f100058, f100059, d247, f100063⟩
            · rw [if_neg c109] at H
              refine lwp_op (by kernel_rfl) (owp_pure ((.bool false)) (pr_bool (by kernel_rfl) (decide_eq_false c109)) ?_)
              refine lwp_nil ?_
              refine cwp_false (by kernel_rfl) ?_
              refine cwp_exit ?_
              obtain rfl := Option.some.inj H
              show Exists _
              exact ⟨x62, x69, x74, x75, a63, c64, a70, c71, v76, I58, rfl, ⟨by kernel_rfl, by kernel_rfl, by kernel_rfl, trivial⟩, pt59, r60, r65, fr67, r72, q77, o79, d80, g81⟩
        · rintro ρ' h84 ⟨x88, x94, x99, x100, a89, c90, a95, c96, v101, I85, rfl, hf, pt86, r87, r91, fr93, r97, q102, o104, d105, g106⟩
          have H := HR108
          try dsimp only at H
          refine cwp_fits _ hf ?_
          refine cwp_seq ?_
          refine cwp_region ?_
          refine lwp_run 3 (by kernel_rfl) ?_
          obtain ⟨t258, m259, H⟩ := bind_some H
          refine lwp_op (by kernel_rfl) (owp_callF (by kernel_rfl) (bytes_Cursor_Left.calls pt86.bd o104 r97 q102 m259) ?_)
          rintro v260 h261 ⟨I262, a265, c266, v269, rfl, p263, r268, q271, o272⟩
          have pt273 := pt86.own p263 (one_fresh fr56)
          obtain ⟨t274, m275, H⟩ := bind_some H
          refine lwp_op (by kernel_rfl) (owp_callF (by kernel_rfl) (bytes_Cursor_Take.calls p263.bd o272 r268 q271 m275) ?_)
          rintro v276 h277 ⟨I278, a281, c282, a286, c287, v290, rfl, p279, r284, fr285, r289, q292, o293⟩
          have pt294 := pt273.own p279 (one_fresh fr56)
          have fr295 := fresh_up fr285 pt273.size
          have d296 := fresh_blk fr285 o272.lt
          have f298 := r91.post pt86.bd p263 (one_not o104.no) (dis_one d105)
          have d297 := fresh_sl fr285 f298.lt
          have f299 := r91.post pt86.bd p263 (one_not o104.no) (dis_one d105)
          have f300 := f299.post p263.bd p279 (one_not o272.no) (dis_one d105)
          obtain ⟨l301, m302, H⟩ := bind_some H
          refine lwp_op (by kernel_rfl) (owp_app (e := 5) (bytes := 1) (tInt .u8) (by kernel_rfl) (elemOk_of (by kernel_rfl)) rfl rfl p279.bd f300 r284.toSl m302 (by kernel_rfl) (by kernel_rfl) ?_)
          intro a303 c304 h305 p306 o307 fr308
          have pt309 := pt294.own p306 (fun b x => .inr (fr93 b x))
          have fr311 := fresh_step fr93 fr308 pt294.size
          have d312 := step_blk fr308 o293.lt d105
          have d313 := step_sl fr308 r284.lt d297
          refine lwp_run 1 (by kernel_rfl) ?_
          refine lwp_nil ?_
          refine cwp_seq ?_
          refine cwp_region ?_
          refine lwp_run 1 (by kernel_rfl) ?_
          have f314 := o293.post p306 d105
          have f315 := r289.up (p306.up p279.bd f300.notI)
          have f316 := ErrV.up (p306.up p279.bd f300.notI) q292
          obtain ⟨t317, m318, H⟩ := bind_some H
          refine lwp_op (by kernel_rfl) (owp_callF (by kernel_rfl) (bytes_Cursor_Fail.calls p306.bd f314 f315 f316 (show ErrV I278 h305 GoErr.nil .nilIface from rfl) m318) ?_)
          rintro v319 h320 ⟨I321, a324, c325, v328, rfl, p322, r327, q330, o331⟩
          have pt332 := pt309.own p322 (one_fresh fr56)
          refine lwp_nil ?_
          refine cwp_seq ?_
          refine cwp_region ?_
          refine lwp_run 1 (by kernel_rfl) ?_
          obtain ⟨t333, m334, H⟩ := bind_some H
          refine lwp_op (by kernel_rfl) (owp_callF (by kernel_rfl) (bytes_Cursor_Err.calls p322.bd o331 r327 q330 m334) ?_)
          rintro v335 h336 ⟨I337, v340, a343, c344, v347, rfl, p338, q342, r346, q349, o350⟩
          have pt351 := pt332.own p338 (one_fresh fr56)
          rcases q342.cases with ⟨c352, rfl⟩ | ⟨c352, t353, u354, rfl⟩
          · rw [if_pos c352] at H
            refine lwp_run 4 (by kernel_rfl) ?_
            have f355 := o307.post p306.bd p322 (one_not f314.no) (dis_one d312)
            have f356 := f355.post p322.bd p338 (one_not o331.no) (dis_one d312)
            have pt357 := post_fz f356 p338.bd pt351 fr311
            have r359 := f356.rd
            have bd360 := bd_fz f356 p338.bd
            have f361 := r87.up (p263.up pt86.bd (one_not o104.no))
            have f362 := f361.up (p279.up p263.bd (one_not o272.no))
            have f363 := f362.up (p306.up p279.bd f300.notI)
            have f364 := f363.up (p322.up p306.bd (one_not f314.no))
            have f365 := f364.up (p338.up p322.bd (one_not o331.no))
            have f366 := f365.up (up_fz (a := a303))
            obtain ⟨t367, m368, H⟩ := bind_some H
            refine lwp_op (by kernel_rfl) (owp_callF (by kernel_rfl) (shutterref01_Same.calls bd360 r359 f366 m368) ?_)
            rintro v369 h370 ⟨_, rfl, rfl⟩
            cases t367
            · rw [cond_false] at H
              refine lwp_run 7 (by kernel_rfl) ?_
              refine lwp_nil ?_
              refine cwp_ret ?_
              obtain rfl := Option.some.inj H
              show Exists _
              exact ⟨.bool false, by kernel_rfl, (Fz I337 a303), rfl, pt357⟩
            · rw [cond_true] at H
              refine lwp_run 3 (by kernel_rfl) ?_
              have f373 := o350.fz d312
              have f374 := r346.up (up_fz (a := a303))
              have f375 := ErrV.up (up_fz (a := a303)) q349
              obtain ⟨t376, m377, H⟩ := bind_some H
              refine lwp_op (by kernel_rfl) (owp_callF (by kernel_rfl) (bytes_Cursor_Left.calls bd360 f373 f374 f375 m377) ?_)
              rintro v378 h379 ⟨I380, a383, c384, v387, rfl, p381, r386, q389, o390⟩
              have pt391 := pt357.own p381 (one_fresh fr56)
              refine lwp_run 3 (by kernel_rfl) ?_
              refine lwp_nil ?_
              refine cwp_ret ?_
              obtain rfl := Option.some.inj H
              show Exists _
              exact ⟨.bool (t376.1 == 0), by kernel_rfl, I380, rfl, pt391⟩
          · rw [if_neg c352] at H
            refine lwp_run 12 (by kernel_rfl) ?_
            refine lwp_nil ?_
            refine cwp_ret ?_
            obtain rfl := Option.some.inj H
            show Exists _
            exact ⟨.bool false, by kernel_rfl, I337, rfl, pt351⟩

/-! shutter/addr.sized -/
def addr_sized.m (x0 : Int) : Option Bool :=
  (if x0 ≥ 1 then (some (decide (x0 ≤ 16383))) else (some false))

set_option maxRecDepth 100000 in
theorem addr_sized.calls {I : Gh} {h : Heap} {x0 : Int} (_hB : Bd I h)  {r : Bool}
    (H : addr_sized.m x0 = some r) :
    Ret Tryd.prog 35 #[.int .i64 x0] h (fun v h' => ∃ _ : Unit, .bool r = v ∧ h = h') := by
  unfold addr_sized.m at H
  refine ret_of (args := [.int .i64 x0]) (rs := [.tmp 2]) (N := 9) Tryd.func35 rfl rfl rfl (Nat.le_of_ble_eq_true rfl) ?_
  refine cwp_seq ?_
  refine cwp_region ?_
  refine lwp_run 1 (by kernel_rfl) ?_
  refine lwp_nil ?_
  refine cwp_seq ?_
  refine cwp_region ?_
  refine lwp_run 1 (by kernel_rfl) ?_
  by_cases c1 : x0 ≥ 1
  · rw [if_pos c1] at H
    refine lwp_op (by kernel_rfl) (owp_pure ((.bool true)) (pr_bool (by kernel_rfl) (decide_eq_true c1)) ?_)
    refine lwp_run 5 (by kernel_rfl) ?_
    refine lwp_nil ?_
    refine cwp_ret ?_
    obtain rfl := Option.some.inj H
    show Exists _
    exact ⟨.bool (decide (x0 ≤ 16383)), by kernel_rfl, (), rfl, rfl⟩
  · rw [if_neg c1] at H
    refine lwp_op (by kernel_rfl) (owp_pure ((.bool false)) (pr_bool (by kernel_rfl) (decide_eq_false c1)) ?_)
    refine lwp_run 5 (by kernel_rfl) ?_
    refine lwp_nil ?_
    refine cwp_ret ?_
    obtain rfl := Option.some.inj H
    show Exists _
    exact ⟨.bool false, by kernel_rfl, (), rfl, rfl⟩

/-! shutter/six.digit -/
def six_digit.m (x0 : Int) : Option Int :=
  (if x0 ≥ 97 then (some (w64 ((w64 ((w64 (x0)) - 39)) - 48))) else (some (w64 ((w64 (x0)) - 48))))

set_option maxRecDepth 100000 in
theorem six_digit.calls {I : Gh} {h : Heap} {x0 : Int} (_hB : Bd I h)  {r : Int}
    (H : six_digit.m x0 = some r) :
    Ret Tryd.prog 48 #[.int .u8 x0] h (fun v h' => ∃ _ : Unit, .int .i64 r = v ∧ h = h') := by
  unfold six_digit.m at H
  refine ret_of (args := [.int .u8 x0]) (rs := [.tmp 2]) (N := 14) Tryd.func48 rfl rfl rfl (Nat.le_of_ble_eq_true rfl) ?_
  refine cwp_seq ?_
  refine cwp_region ?_
  refine lwp_run 1 (by kernel_rfl) ?_
  refine lwp_nil ?_
  refine cwp_seq ?_
  refine cwp_region ?_
  refine lwp_run 3 (by kernel_rfl) ?_
  refine lwp_nil ?_
  refine cwp_seq ?_
  refine cwp_block ?_
  refine cwp_seq ?_
  refine cwp_block ?_
  refine cwp_seq ?_
  refine cwp_block ?_
  refine cwp_seq ?_
  refine cwp_seq ?_
  refine cwp_region ?_
  refine lwp_run 1 (by kernel_rfl) ?_
  by_cases c1 : x0 ≥ 97
  · rw [if_pos c1] at H
    refine lwp_op (by kernel_rfl) (owp_pure ((.bool true)) (pr_bool (by kernel_rfl) (decide_eq_true c1)) ?_)
    refine lwp_run 1 (by kernel_rfl) ?_
    refine lwp_nil ?_
    refine cwp_true (by kernel_rfl) ?_
    refine cwp_exit ?_
    refine cwp_region ?_
    refine lwp_run 3 (by kernel_rfl) ?_
    refine lwp_nil ?_
    refine cwp_seq ?_
    refine cwp_region ?_
    refine lwp_run 3 (by kernel_rfl) ?_
    refine lwp_nil ?_
    refine cwp_exit ?_
    refine cwp_seq ?_
    refine cwp_region ?_
    refine lwp_run 2 (by kernel_rfl) ?_
    refine lwp_nil ?_
    refine cwp_ret ?_
    obtain rfl := Option.some.inj H
    show Exists _
    exact ⟨.int .i64 (w64 ((w64 ((w64 (x0)) - 39)) - 48)), by kernel_rfl, (), rfl, rfl⟩
  · rw [if_neg c1] at H
    refine lwp_op (by kernel_rfl) (owp_pure ((.bool false)) (pr_bool (by kernel_rfl) (decide_eq_false c1)) ?_)
    refine lwp_run 1 (by kernel_rfl) ?_
    refine lwp_nil ?_
    refine cwp_false (by kernel_rfl) ?_
    refine cwp_skip ?_
    refine cwp_exit ?_
    refine cwp_seq ?_
    refine cwp_region ?_
    refine lwp_run 3 (by kernel_rfl) ?_
    refine lwp_nil ?_
    refine cwp_exit ?_
    refine cwp_seq ?_
    refine cwp_region ?_
    refine lwp_run 2 (by kernel_rfl) ?_
    refine lwp_nil ?_
    refine cwp_ret ?_
    obtain rfl := Option.some.inj H
    show Exists _
    exact ⟨.int .i64 (w64 ((w64 (x0)) - 48)), by kernel_rfl, (), rfl, rfl⟩

/-! shutter/six.at -/
def six_at.m (x0 : Int) : Option Int :=
  (if 0 ≤ (w64 (2 * x0)) then (if (w64 (2 * x0)) < 128 then (if 0 ≤ (w64 ((w64 (2 * x0)) + 1)) then (if (w64 ((w64 (2 * x0)) + 1)) < 128 then ((six_digit.m (bt (⟨#[52, 48, 99, 49, 99, 50, 99, 51, 99, 52, 99, 53, 99, 54, 99, 55, 99, 56, 99, 57, 52, 97, 52, 98, 52, 99, 52, 100, 52, 101, 52, 102, 53, 48, 100, 49, 100, 50, 100, 51, 100, 52, 100, 53, 100, 54, 100, 55, 100, 56, 100, 57, 53, 97, 53, 98, 53, 99, 53, 100, 53, 101, 53, 102, 54, 48, 54, 49, 101, 50, 101, 51, 101, 52, 101, 53, 101, 54, 101, 55, 101, 56, 101, 57, 54, 97, 54, 98, 54, 99, 54, 100, 54, 101, 54, 102, 102, 48, 102, 49, 102, 50, 102, 51, 102, 52, 102, 53, 102, 54, 102, 55, 102, 56, 102, 57, 55, 97, 55, 98, 55, 99, 55, 100, 55, 101, 55, 102]⟩ : ByteArray) (w64 (2 * x0)))).bind fun t5 => ((six_digit.m (bt (⟨#[52, 48, 99, 49, 99, 50, 99, 51, 99, 52, 99, 53, 99, 54, 99, 55, 99, 56, 99, 57, 52, 97, 52, 98, 52, 99, 52, 100, 52, 101, 52, 102, 53, 48, 100, 49, 100, 50, 100, 51, 100, 52, 100, 53, 100, 54, 100, 55, 100, 56, 100, 57, 53, 97, 53, 98, 53, 99, 53, 100, 53, 101, 53, 102, 54, 48, 54, 49, 101, 50, 101, 51, 101, 52, 101, 53, 101, 54, 101, 55, 101, 56, 101, 57, 54, 97, 54, 98, 54, 99, 54, 100, 54, 101, 54, 102, 102, 48, 102, 49, 102, 50, 102, 51, 102, 52, 102, 53, 102, 54, 102, 55, 102, 56, 102, 57, 55, 97, 55, 98, 55, 99, 55, 100, 55, 101, 55, 102]⟩ : ByteArray) (w64 ((w64 (2 * x0)) + 1)))).bind fun t11 => (some (IntKind.u8.wrap ((bOr .i64 (shl .i64 t5 4) t11)))))) else none) else none) else none) else none)

set_option maxRecDepth 100000 in
theorem six_at.calls {I : Gh} {h : Heap} {x0 : Int} (hB : Bd I h)  {r : Int}
    (H : six_at.m x0 = some r) :
    Ret Tryd.prog 41 #[.int .i64 x0] h (fun v h' => ∃ _ : Unit, .int .u8 r = v ∧ h = h') := by
  unfold six_at.m at H
  refine ret_of (args := [.int .i64 x0]) (rs := [.tmp 2]) (N := 15) Tryd.func41 rfl rfl rfl (Nat.le_of_ble_eq_true rfl) ?_
  refine cwp_seq ?_
  refine cwp_region ?_
  refine lwp_run 1 (by kernel_rfl) ?_
  refine lwp_nil ?_
  refine cwp_seq ?_
  refine cwp_regionD (Keep No h) (by kernel_rfl) ?_
  obtain ⟨c1, H⟩ := guard_pos H
  obtain ⟨c2, H⟩ := guard_pos H
  refine awp_run (fuel := 11) [0, 1] Keep.refl (by kernel_rfl) ?_
  refine awp_pure 2 ((.int .u8 (bt (⟨#[52, 48, 99, 49, 99, 50, 99, 51, 99, 52, 99, 53, 99, 54, 99, 55, 99, 56, 99, 57, 52, 97, 52, 98, 52, 99, 52, 100, 52, 101, 52, 102, 53, 48, 100, 49, 100, 50, 100, 51, 100, 52, 100, 53, 100, 54, 100, 55, 100, 56, 100, 57, 53, 97, 53, 98, 53, 99, 53, 100, 53, 101, 53, 102, 54, 48, 54, 49, 101, 50, 101, 51, 101, 52, 101, 53, 101, 54, 101, 55, 101, 56, 101, 57, 54, 97, 54, 98, 54, 99, 54, 100, 54, 101, 54, 102, 102, 48, 102, 49, 102, 50, 102, 51, 102, 52, 102, 53, 102, 54, 102, 55, 102, 56, 102, 57, 55, 97, 55, 98, 55, 99, 55, 100, 55, 101, 55, 102]⟩ : ByteArray) (w64 (2 * x0))))) rfl (by kernel_rfl) (by kernel_rfl) (pr_indexStr (s := (⟨#[52, 48, 99, 49, 99, 50, 99, 51, 99, 52, 99, 53, 99, 54, 99, 55, 99, 56, 99, 57, 52, 97, 52, 98, 52, 99, 52, 100, 52, 101, 52, 102, 53, 48, 100, 49, 100, 50, 100, 51, 100, 52, 100, 53, 100, 54, 100, 55, 100, 56, 100, 57, 53, 97, 53, 98, 53, 99, 53, 100, 53, 101, 53, 102, 54, 48, 54, 49, 101, 50, 101, 51, 101, 52, 101, 53, 101, 54, 101, 55, 101, 56, 101, 57, 54, 97, 54, 98, 54, 99, 54, 100, 54, 101, 54, 102, 102, 48, 102, 49, 102, 50, 102, 51, 102, 52, 102, 53, 102, 54, 102, 55, 102, 56, 102, 57, 55, 97, 55, 98, 55, 99, 55, 100, 55, 101, 55, 102]⟩ : ByteArray)) (k := .i64) (i := (w64 (2 * x0))) (by kernel_rfl) (by kernel_rfl) (by kernel_rfl) c1 c2) Keep.refl ?_
  obtain ⟨c3, H⟩ := guard_pos H
  obtain ⟨c4, H⟩ := guard_pos H
  refine awp_run (fuel := 7) [5, 6, 7] Keep.refl (by kernel_rfl) ?_
  refine awp_pure 8 ((.int .u8 (bt (⟨#[52, 48, 99, 49, 99, 50, 99, 51, 99, 52, 99, 53, 99, 54, 99, 55, 99, 56, 99, 57, 52, 97, 52, 98, 52, 99, 52, 100, 52, 101, 52, 102, 53, 48, 100, 49, 100, 50, 100, 51, 100, 52, 100, 53, 100, 54, 100, 55, 100, 56, 100, 57, 53, 97, 53, 98, 53, 99, 53, 100, 53, 101, 53, 102, 54, 48, 54, 49, 101, 50, 101, 51, 101, 52, 101, 53, 101, 54, 101, 55, 101, 56, 101, 57, 54, 97, 54, 98, 54, 99, 54, 100, 54, 101, 54, 102, 102, 48, 102, 49, 102, 50, 102, 51, 102, 52, 102, 53, 102, 54, 102, 55, 102, 56, 102, 57, 55, 97, 55, 98, 55, 99, 55, 100, 55, 101, 55, 102]⟩ : ByteArray) (w64 ((w64 (2 * x0)) + 1))))) rfl (by kernel_rfl) (by kernel_rfl) (pr_indexStr (s := (⟨#[52, 48, 99, 49, 99, 50, 99, 51, 99, 52, 99, 53, 99, 54, 99, 55, 99, 56, 99, 57, 52, 97, 52, 98, 52, 99, 52, 100, 52, 101, 52, 102, 53, 48, 100, 49, 100, 50, 100, 51, 100, 52, 100, 53, 100, 54, 100, 55, 100, 56, 100, 57, 53, 97, 53, 98, 53, 99, 53, 100, 53, 101, 53, 102, 54, 48, 54, 49, 101, 50, 101, 51, 101, 52, 101, 53, 101, 54, 101, 55, 101, 56, 101, 57, 54, 97, 54, 98, 54, 99, 54, 100, 54, 101, 54, 102, 102, 48, 102, 49, 102, 50, 102, 51, 102, 52, 102, 53, 102, 54, 102, 55, 102, 56, 102, 57, 55, 97, 55, 98, 55, 99, 55, 100, 55, 101, 55, 102]⟩ : ByteArray)) (k := .i64) (i := (w64 ((w64 (2 * x0)) + 1))) (by kernel_rfl) (by kernel_rfl) (by kernel_rfl) c3 c4) Keep.refl ?_
  obtain ⟨t5, m6, H⟩ := bind_some H
  refine awp_op 3 (by kernel_rfl) rfl (by kernel_rfl) (owp_callF (by kernel_rfl) (six_digit.calls hB m6) ?_)
  rintro v7 h8 ⟨_, rfl, rfl⟩
  refine ⟨Keep.refl, ?_⟩
  refine awp_run (fuel := 4) [4] Keep.refl (by kernel_rfl) ?_
  obtain ⟨t11, m12, H⟩ := bind_some H
  refine awp_op 9 (by kernel_rfl) rfl (by kernel_rfl) (owp_callF (by kernel_rfl) (six_digit.calls hB m12) ?_)
  rintro v13 h14 ⟨_, rfl, rfl⟩
  refine ⟨Keep.refl, ?_⟩
  refine awp_run (fuel := 0) [10, 11, 12] Keep.refl (by kernel_rfl) ?_
  refine awp_nil (by kernel_rfl) ?_ 0
  refine cwp_ret ?_
  obtain rfl := Option.some.inj H
  show Exists _
  exact ⟨.int .u8 (IntKind.u8.wrap ((bOr .i64 (shl .i64 t5 4) t11))), by kernel_rfl, (), rfl, rfl⟩

/-! shutter/six.Put -/
def six_Put.m (x0 : Int) : Option (Int × GoErr) :=
  (if x0 < 0 then (some (0, (GoErr.no 1))) else (if x0 ≥ 64 then (some (0, (GoErr.no 1))) else ((six_at.m x0).bind fun t3 => (some (t3, GoErr.nil)))))

set_option maxRecDepth 100000 in
theorem six_Put.calls {I : Gh} {h : Heap} {x0 : Int} (hB : Bd I h)  {r : (Int × GoErr)}
    (H : six_Put.m x0 = some r) :
    Ret Tryd.prog 36 #[.int .i64 x0] h (fun v h' => ∃ (v9 : Value), .tuple #[.int .u8 r.1, v9] = v ∧ h = h' ∧ ErrV I h r.2 v9) := by
  unfold six_Put.m at H
  refine ret_of (args := [.int .i64 x0]) (rs := [.tmp 2, .tmp 3]) (N := 13) Tryd.func36 rfl rfl rfl (Nat.le_of_ble_eq_true rfl) ?_
  refine cwp_seq ?_
  refine cwp_region ?_
  refine lwp_run 2 (by kernel_rfl) ?_
  refine lwp_nil ?_
  refine cwp_seq ?_
  refine cwp_seq ?_
  refine cwp_region ?_
  refine lwp_run 1 (by kernel_rfl) ?_
  by_cases c1 : x0 < 0
  · rw [if_pos c1] at H
    refine lwp_op (by kernel_rfl) (owp_pure ((.bool true)) (pr_bool (by kernel_rfl) (decide_eq_true c1)) ?_)
    refine lwp_run 4 (by kernel_rfl) ?_
    refine lwp_nil ?_
    refine cwp_true (by kernel_rfl) ?_
    refine cwp_seq ?_
    refine cwp_region ?_
    refine lwp_run 3 (by kernel_rfl) ?_
    refine lwp_nil ?_
    refine cwp_ret ?_
    obtain rfl := Option.some.inj H
    show Exists _
    exact ⟨.tuple #[.int .u8 0, .iface 55 (.int .i64 1)], by kernel_rfl, (.iface 55 (.int .i64 1)), rfl, rfl, (show ErrV I h (GoErr.no 1) (.iface 55 (.int .i64 1)) from rfl)⟩
  · rw [if_neg c1] at H
    refine lwp_op (by kernel_rfl) (owp_pure ((.bool false)) (pr_bool (by kernel_rfl) (decide_eq_false c1)) ?_)
    refine lwp_run 2 (by kernel_rfl) ?_
    by_cases c2 : x0 ≥ 64
    · rw [if_pos c2] at H
      refine lwp_op (by kernel_rfl) (owp_pure ((.bool true)) (pr_bool (by kernel_rfl) (decide_eq_true c2)) ?_)
      refine lwp_run 1 (by kernel_rfl) ?_
      refine lwp_nil ?_
      refine cwp_true (by kernel_rfl) ?_
      refine cwp_seq ?_
      refine cwp_region ?_
      refine lwp_run 3 (by kernel_rfl) ?_
      refine lwp_nil ?_
      refine cwp_ret ?_
      obtain rfl := Option.some.inj H
      show Exists _
      exact ⟨.tuple #[.int .u8 0, .iface 55 (.int .i64 1)], by kernel_rfl, (.iface 55 (.int .i64 1)), rfl, rfl, (show ErrV I h (GoErr.no 1) (.iface 55 (.int .i64 1)) from rfl)⟩
    · rw [if_neg c2] at H
      refine lwp_op (by kernel_rfl) (owp_pure ((.bool false)) (pr_bool (by kernel_rfl) (decide_eq_false c2)) ?_)
      refine lwp_run 1 (by kernel_rfl) ?_
      refine lwp_nil ?_
      refine cwp_false (by kernel_rfl) ?_
      refine cwp_skip ?_
      refine cwp_seq ?_
      refine cwp_region ?_
      refine lwp_run 1 (by kernel_rfl) ?_
      obtain ⟨t3, m4, H⟩ := bind_some H
      refine lwp_op (by kernel_rfl) (owp_callF (by kernel_rfl) (six_at.calls hB m4) ?_)
      rintro v5 h6 ⟨_, rfl, rfl⟩
      refine lwp_run 2 (by kernel_rfl) ?_
      refine lwp_nil ?_
      refine cwp_ret ?_
      obtain rfl := Option.some.inj H
      show Exists _
      exact ⟨.tuple #[.int .u8 t3, .nilIface], by kernel_rfl, (.nilIface), rfl, rfl, (show ErrV I h GoErr.nil .nilIface from rfl)⟩

/-! shutter/addr.Long -/
def addr_Long.m (x0 : Int) : Option Bool :=
  (some (decide (x0 > 4096)))

set_option maxRecDepth 100000 in
theorem addr_Long.calls {I : Gh} {h : Heap} {x0 : Int} (_hB : Bd I h)  {r : Bool}
    (H : addr_Long.m x0 = some r) :
    Ret Tryd.prog 22 #[.int .i64 x0] h (fun v h' => ∃ _ : Unit, .bool r = v ∧ h = h') := by
  unfold addr_Long.m at H
  refine ret_of (args := [.int .i64 x0]) (rs := [.tmp 2]) (N := 5) Tryd.func22 rfl rfl rfl (Nat.le_of_ble_eq_true rfl) ?_
  refine cwp_seq ?_
  refine cwp_region ?_
  refine lwp_run 1 (by kernel_rfl) ?_
  refine lwp_nil ?_
  refine cwp_seq ?_
  refine cwp_region ?_
  refine lwp_run 3 (by kernel_rfl) ?_
  refine lwp_nil ?_
  refine cwp_ret ?_
  obtain rfl := Option.some.inj H
  show Exists _
  exact ⟨.bool (decide (x0 > 4096)), by kernel_rfl, (), rfl, rfl⟩

end Go.Proofs.YtenlbpcfilmgpaaDoor.Sx
