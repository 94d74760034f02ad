/- Printed walks, part 0: each function's model, and that the code comes to it. -/
import Derived.Test.YtgljelhakcallaaDoorProg
import Derived.Test.YtgljelhakcallaaDoorV4
import Derived.Test.YtgljelhakcallaaDoorV5
namespace Go.Proofs.YtgljelhakcallaaDoor.Sx
open Go
set_option maxRecDepth 100000

structure bytes_Cursor where
  b' : (List Int)
  at' : Int
  err' : GoErr
  deriving DecidableEq, Inhabited

def t_bytes_Cursor : Ty bytes_Cursor where
  size := 3
  rep I h cs x := ∃ a_0, ∃ c_0, ∃ n_0, ∃ v_2, cs = [.slice a_0 n_0 c_0, .int .i64 x.at', v_2] ∧ (Rd (tInt .u8) I h a_0 c_0 x.b' ∧ x.b'.length = n_0) ∧ ErrV I h x.err' v_2
  len := by rintro _ _ _ _ ⟨_, _, _, _, rfl, _, _⟩; rfl
  one := by
    rintro _ _ _ _ ⟨e0, e1, e2, e3, rfl, q0, q1⟩ v hv
    simp only [List.mem_cons, List.not_mem_nil, or_false] at hv
    rcases hv with rfl | rfl | rfl
    · exact rfl
    · exact rfl
    · exact q1.one
  up := by rintro _ _ _ _ _ _ u ⟨e0, e1, e2, e3, rfl, q0, q1⟩; exact ⟨e0, e1, e2, e3, rfl, ⟨q0.1.up u, q0.2⟩, q1.up u⟩
theorem t_bytes_Cursor.open_ {I : Gh} {h : Heap} {cs : List Value} {x : bytes_Cursor} (r : t_bytes_Cursor.rep I h cs x) : ∃ a_0, ∃ c_0, ∃ n_0, ∃ v_2, cs = [.slice a_0 n_0 c_0, .int .i64 x.at', v_2] ∧ (Rd (tInt .u8) I h a_0 c_0 x.b' ∧ x.b'.length = n_0) ∧ ErrV I h x.err' v_2 := r

structure hash_Sum where
  h' : (List Int)
  rest' : (List Int)
  n' : Int
  deriving DecidableEq, Inhabited

def t_hash_Sum : Ty hash_Sum where
  size := 10
  rep I h cs x := ∃ a_1, ∃ c_1, ∃ n_1, cs = [.int .u32 (at_ x.h' 0), .int .u32 (at_ x.h' 1), .int .u32 (at_ x.h' 2), .int .u32 (at_ x.h' 3), .int .u32 (at_ x.h' 4), .int .u32 (at_ x.h' 5), .int .u32 (at_ x.h' 6), .int .u32 (at_ x.h' 7), .slice a_1 n_1 c_1, .int .u64 x.n'] ∧ List.length x.h' = 8 ∧ (Rd (tInt .u8) I h a_1 c_1 x.rest' ∧ x.rest'.length = n_1)
  len := by rintro _ _ _ _ ⟨_, _, _, rfl, _, _⟩; rfl
  one := by
    rintro _ _ _ _ ⟨e0, e1, e2, rfl, q0, q1⟩ v hv
    simp only [List.mem_cons, List.not_mem_nil, or_false] at hv
    rcases hv with rfl | rfl | rfl | rfl | rfl | rfl | rfl | rfl | rfl | rfl
    · exact rfl
    · exact rfl
    · exact rfl
    · exact rfl
    · exact rfl
    · exact rfl
    · exact rfl
    · exact rfl
    · exact rfl
    · exact rfl
  up := by rintro _ _ _ _ _ _ u ⟨e0, e1, e2, rfl, q0, q1⟩; exact ⟨e0, e1, e2, rfl, q0, ⟨q1.1.up u, q1.2⟩⟩
theorem t_hash_Sum.open_ {I : Gh} {h : Heap} {cs : List Value} {x : hash_Sum} (r : t_hash_Sum.rep I h cs x) : ∃ a_1, ∃ c_1, ∃ n_1, cs = [.int .u32 (at_ x.h' 0), .int .u32 (at_ x.h' 1), .int .u32 (at_ x.h' 2), .int .u32 (at_ x.h' 3), .int .u32 (at_ x.h' 4), .int .u32 (at_ x.h' 5), .int .u32 (at_ x.h' 6), .int .u32 (at_ x.h' 7), .slice a_1 n_1 c_1, .int .u64 x.n'] ∧ List.length x.h' = 8 ∧ (Rd (tInt .u8) I h a_1 c_1 x.rest' ∧ x.rest'.length = n_1) := r

structure api_Frame where
  Dir : Int
  Seq : Int
  Body : (List Int)
  deriving DecidableEq, Inhabited

def t_api_Frame : Ty api_Frame where
  size := 3
  rep I h cs x := ∃ a_2, ∃ c_2, ∃ n_2, cs = [.int .i64 x.Dir, .int .i64 x.Seq, .slice a_2 n_2 c_2] ∧ (Rd (tInt .u8) I h a_2 c_2 x.Body ∧ x.Body.length = n_2)
  len := by rintro _ _ _ _ ⟨_, _, _, rfl, _⟩; rfl
  one := by
    rintro _ _ _ _ ⟨e0, e1, e2, rfl, q0⟩ v hv
    simp only [List.mem_cons, List.not_mem_nil, or_false] at hv
    rcases hv with rfl | rfl | rfl
    · exact rfl
    · exact rfl
    · exact rfl
  up := by rintro _ _ _ _ _ _ u ⟨e0, e1, e2, rfl, q0⟩; exact ⟨e0, e1, e2, rfl, ⟨q0.1.up u, q0.2⟩⟩
theorem t_api_Frame.open_ {I : Gh} {h : Heap} {cs : List Value} {x : api_Frame} (r : t_api_Frame.rep I h cs x) : ∃ a_2, ∃ c_2, ∃ n_2, cs = [.int .i64 x.Dir, .int .i64 x.Seq, .slice a_2 n_2 c_2] ∧ (Rd (tInt .u8) I h a_2 c_2 x.Body ∧ x.Body.length = n_2) := r

/-! slices.Clone[[]byte,byte] -/
def slices_Clone_bytes.m (x0 : (List Int)) : Option (List Int) :=
  ((app [] x0).bind fun l29 => (some l29))

theorem slices_Clone_bytes.calls {B I : Gh} {h : Heap} {x0 : (List Int)} {a21 : Option Addr} {p22 : Nat} {n23 : Nat} {r : (List Int)} (H : slices_Clone_bytes.m x0 = some r)  :
    Fc Tryd.prog 26 #[.slice a21 n23 p22] [rR (tInt .u8) .b a21 p22 n23 x0] B I h (fun v L => ∃ (a34 : Option Addr) (p35 : Nat) (n36 : Nat), v = .slice a34 n36 p35 ∧ L = [rO (tInt .u8) .i a34 p35 n36 r]) := by
 refine fc_of fun E hs => ?_
 unfold slices_Clone_bytes.m at H
 obtain rfl := hs.nR d0
 refine fn_of (args := [.slice a21 x0.length p22]) (rs := [.tmp 2]) (N := 8) Tryd.func26 rfl rfl rfl rfl ?_
 rcases a21 with _ | ad25
 ·have e26 := ((hs.sR d0).toSl.nil rfl).1
  replace H : (some []) = some r := by simpa [app, Lim, e26] using H
  refine st 15 [true] ?_
  refine k_retQ ?_
  obtain rfl := Option.some.inj H
  exact ⟨_, by kernel_rfl, I, _, ⟨none, 0, 0, rfl, rfl⟩, hs.pk (.f imON .n)⟩
 ·refine st 14 [false] (k_op (nS (e := 5) hs .i (tInt .u8) ([] : List Int) [] 1 (.int .u8 0) (Reps.int (I := (Cl.G .i E.B I)) (k := .u8) (l := [])) ?_))
  intro b27 h hs
  obtain ⟨l29, m30, H⟩ := bind_some H
  refine st 1 [] (k_op (aO (e := 5) (bytes := 1) hs ((hs.sR d1).flat flat_int) m30 ?_))
  intro a31 p32 h hs
  refine st 2 [] ?_
  refine k_retQ ?_
  obtain rfl := Option.some.inj H
  exact ⟨_, by kernel_rfl, I, _, ⟨a31, p32, l29.length, rfl, rfl⟩, hs.pk (.c d0 .n)⟩

/-! shutter/bytes.New -/
def bytes_New.m (x0 : (List Int)) : Option bytes_Cursor :=
  ((slices_Clone_bytes.m x0).bind fun t25 => (some (⟨t25, 0, GoErr.nil⟩ : bytes_Cursor)))

theorem bytes_New.calls {B I : Gh} {h : Heap} {x0 : (List Int)} {a21 : Option Addr} {p22 : Nat} {n23 : Nat} {r : bytes_Cursor} (H : bytes_New.m x0 = some r)  :
    Fc Tryd.prog 10 #[.slice a21 n23 p22] [rR (tInt .u8) .b a21 p22 n23 x0] B I h (fun v L => ∃ (b31 : Nat) (a32 : Option Addr) (p33 : Nat) (n34 : Nat) (v36 : Value), v = .pointer (some ⟨b31, 0, none⟩) ∧ L = [rB b31 [.slice a32 n34 p33, .int .i64 r.at', v36] 54, rR (tInt .u8) .i a32 p33 n34 r.b', rE .i v36 r.err']) := by
 refine fc_of fun E hs => ?_
 unfold bytes_New.m at H
 obtain rfl := hs.nR d0
 refine fn_of (args := [.slice a21 x0.length p22]) (rs := [.tmp 2]) (N := 7) Tryd.func10 rfl rfl rfl rfl ?_
 obtain ⟨hk, bk⟩ := hs.call tk0 (.c (qB d0) .n)
 refine st 7 [] (k_call H (fun _ m => slices_Clone_bytes.calls m hk) ?_)
 rintro t25 _ h H ⟨I, _, ⟨a26, p27, n28, rfl, rfl⟩, hk⟩
 replace hs := bk hk ct1 rfl
 obtain rfl := hs.nO d0
 refine st 1 [] (k_op (nB hs [.slice a26 t25.length p27, .int .i64 0, .nilIface] ?_))
 intro b30 h hs
 refine st 2 [] ?_
 refine k_retQ ?_
 obtain rfl := Option.some.inj H
 obtain ⟨I, hs⟩ := (hs.f d1).fO
 exact ⟨_, by kernel_rfl, I, _, ⟨b30, a26, p27, t25.length, (.nilIface), rfl, rfl⟩, hs.pk (.c d1 (.c d0 (.f imEN .n)))⟩

/-! shutter/api.Code -/
def api_Code.m (x0 : GoErr) : Option Int := some (codeOf x0)
theorem api_Code.calls {B I : Gh} {h : Heap} {x0 : GoErr} {v1 : Value} {r : Int} (H : api_Code.m x0 = some r) : Fc Tryd.prog 16 #[v1] [rE .b v1 x0, rG] B I h (fun v L => v = .int .i64 r ∧ L = []) :=
  Code_fc (Option.some.inj H)

/-! (*shutter/bytes.Cursor).Left -/
def bytes_Cursor_Left.m (x0 : bytes_Cursor) : Option (Int × bytes_Cursor) :=
  (some ((w64 ((x0.b'.length : Int) - x0.at')), x0))

theorem bytes_Cursor_Left.calls {B I : Gh} {h : Heap} {x0 : bytes_Cursor} {b0 : Nat} {a21 : Option Addr} {p22 : Nat} {n23 : Nat} {v25 : Value} {r : (Int × bytes_Cursor)} (H : bytes_Cursor_Left.m x0 = some r)  :
    Fc Tryd.prog 27 #[.pointer (some ⟨b0, 0, none⟩)] [rB b0 [.slice a21 n23 p22, .int .i64 x0.at', v25] 54, rR (tInt .u8) .i a21 p22 n23 x0.b'] B I h (fun v L => ∃ (a26 : Option Addr) (p27 : Nat) (n28 : Nat), v = .int .i64 r.1 ∧ L = [rB b0 [.slice a26 n28 p27, .int .i64 r.2.at', v25] 54, rR (tInt .u8) .i a26 p27 n28 r.2.b']) := by
 refine fc_of fun E hs => ?_
 unfold bytes_Cursor_Left.m at H
 obtain rfl := hs.nR d1
 refine fn_of (args := [.pointer (some ⟨b0, 0, none⟩)]) (rs := [.tmp 2]) (N := 13) Tryd.func27 rfl rfl rfl rfl ?_
 refine st 5 [] ?_
 obtain ⟨hs0, bk0⟩ := hs.call tk0 (.c (qL d0) .n)
 have hs := hs0
 refine k_regD hs0 11 ?_
 refine aRun [0, 1, 2] 8 hs.keep ?_
 refine aL 3 rfl hs.keep (ll hs0 d0 (n := 0) rfl) (nmL hs0 d0) ?_
 refine aRun [4, 5, 6, 7] 3 hs.keep ?_
 refine aL 8 rfl hs.keep (ll hs0 d0 (n := 1) rfl) (nmL hs0 d0) ?_
 refine aRun [9, 10] 0 hs.keep ?_
 replace hs := hs.pk .n
 replace hs := bk0 hs ct0 rfl
 refine aEnd ?_
 refine k_retQ ?_
 obtain rfl := Option.some.inj H
 exact ⟨_, by kernel_rfl, I, _, ⟨a21, p22, x0.b'.length, rfl, rfl⟩, hs.pk (.c d0 (.c d0 .n))⟩

/-! (*shutter/bytes.Cursor).Fail -/
def bytes_Cursor_Fail.m (x0 : bytes_Cursor) (x1 : GoErr) : Option bytes_Cursor :=
  (letJ (α := Bool → Option bytes_Cursor) (fun (x33 : Bool) => (bif x33 then (some (⟨x0.b', x0.at', (GoErr.spot x0.at' x1)⟩ : bytes_Cursor)) else (some x0))) fun (j35 : Bool → Option bytes_Cursor) => (if x0.err' = GoErr.nil then (if x1 = GoErr.nil then (j35 false) else (j35 true)) else (j35 false)))

theorem bytes_Cursor_Fail.calls {B I : Gh} {h : Heap} {x0 : bytes_Cursor} {x1 : GoErr} {b0 : Nat} {v21 : Value} {v22 : Value} {v24 : Value} {r : bytes_Cursor} (H : bytes_Cursor_Fail.m x0 x1 = some r)  :
    Fc Tryd.prog 28 #[.pointer (some ⟨b0, 0, none⟩), v24] [rB b0 [v21, .int .i64 x0.at', v22] 54, rE .i v22 x0.err', rE .i v24 x1] B I h (fun v L => ∃ (v43 : Value), v = .tuple #[] ∧ L = [rB b0 [v21, .int .i64 r.at', v43] 54, rE .i v43 r.err']) := by
 refine fc_of fun E hs => ?_
 unfold bytes_Cursor_Fail.m at H
 refine fn_of (args := [.pointer (some ⟨b0, 0, none⟩), v24]) (rs := []) (N := 24) Tryd.func28 rfl rfl rfl rfl ?_
 refine st 1 [] ?_
 obtain ⟨j35, e42, H⟩ := letJ_some H
 refine k_join (fun ρ h => ∃ (x33 : Bool) (v32 : Value) (v34 : Value) (I : Gh), j35 x33 = some r ∧ Fits [(0, .pointer (some ⟨b0, 0, none⟩)), (1, v32), (12, .bool x33)] ρ ∧ St E [rE .i v32 x1, rE .i v34 x0.err', rB b0 [v21, .int .i64 x0.at', v34] 54] I h) ?_ ?_
 ·refine st 4 [] (k_op (lB (hs.bl d0) 2 rfl ?_))
  rcases (hs.er d1).cases with ⟨c26, rfl⟩ | ⟨c26, t27, u28, rfl⟩
  ·rw [if_pos c26] at H
   rcases (hs.er d2).cases with ⟨c29, rfl⟩ | ⟨c29, t30, u31, rfl⟩
   ·rw [if_pos c29] at H
    refine st 6 [] ?_
    exact k_end ⟨false, .nilIface, .nilIface, I, H, ⟨by kernel_rfl, by kernel_rfl, by kernel_rfl, trivial⟩, hs.pk (.c d2 (.c d1 (.c d0 .n)))⟩
   ·rw [if_neg c29] at H
    refine st 6 [] ?_
    exact k_end ⟨true, (.iface t30 u31), .nilIface, I, H, ⟨by kernel_rfl, by kernel_rfl, by kernel_rfl, trivial⟩, hs.pk (.c d2 (.c d1 (.c d0 .n)))⟩
  ·rw [if_neg c26] at H
   refine st 6 [] ?_
   exact k_end ⟨false, v24, (.iface t27 u28), I, H, ⟨by kernel_rfl, by kernel_rfl, by kernel_rfl, trivial⟩, hs.pk (.c d2 (.c d1 (.c d0 .n)))⟩
 ·clear H
  rintro ρ h ⟨x33, v32, v34, I, H, hf, hs⟩
  refine k_fits _ hf ?_ rfl
  subst e42
  try dsimp only at H
  cases x33
  ·rw [cond_false] at H
   refine st 2 [false] ?_
   refine k_fin ?_
   obtain rfl := Option.some.inj H
   exact ⟨_, by kernel_rfl, I, _, ⟨(v34), rfl, rfl⟩, hs.pk (.c d2 (.c d1 .n))⟩
  ·rw [cond_true] at H
   refine st 6 [true] (k_op (lB (hs.bl d2) 1 rfl ?_))
   rcases (hs.er d0).cases with ⟨c36, rfl⟩ | ⟨c36, t37, u38, rfl⟩
   ·refine st 2 [] (k_op (nB hs [.int .i64 x0.at', .nilIface] ?_))
    intro b39 h hs
    have q40 := (hs.er d1)
    obtain ⟨I, hs⟩ := hs.fS q40
    refine st 3 [] (k_op (sB (v := (.iface 67 (.pointer (some ⟨b39, 0, none⟩)))) (hs.f d3) cw2 ?_))
    intro h hs
    refine st 1 [] ?_
    refine k_fin ?_
    obtain rfl := Option.some.inj H
    exact ⟨_, by kernel_rfl, I, _, ⟨((.iface 67 (.pointer (some ⟨b39, 0, none⟩)))), rfl, rfl⟩, hs.pk (.c d0 (.c d0 .n))⟩
   ·refine st 2 [] (k_op (nB hs [.int .i64 x0.at', (.iface t37 u38)] ?_))
    intro b39 h hs
    have q40 := (hs.er d1)
    obtain ⟨I, hs⟩ := hs.fS q40
    refine st 3 [] (k_op (sB (v := (.iface 67 (.pointer (some ⟨b39, 0, none⟩)))) (hs.f d3) cw2 ?_))
    intro h hs
    refine st 1 [] ?_
    refine k_fin ?_
    obtain rfl := Option.some.inj H
    exact ⟨_, by kernel_rfl, I, _, ⟨((.iface 67 (.pointer (some ⟨b39, 0, none⟩)))), rfl, rfl⟩, hs.pk (.c d0 (.c d0 .n))⟩

/-! (*shutter/bytes.Cursor).Take -/
def bytes_Cursor_Take.m (x0 : bytes_Cursor) (x1 : Int) : Option ((List Int) × bytes_Cursor) :=
  (letJ (α := (List Int) → Int → GoErr → Option ((List Int) × bytes_Cursor)) (fun (x40 : List Int) (x45 : Int) (x46 : GoErr) => (if x46 = GoErr.nil then (if 0 ≤ (w64 ((w64 (x45 + x1)) - x1)) then (if (w64 ((w64 (x45 + x1)) - x1)) ≤ (w64 (x45 + x1)) then (if (w64 (x45 + x1)) ≤ (x40.length : Int) then ((slices_Clone_bytes.m (sub x40 (w64 ((w64 (x45 + x1)) - x1)) (w64 (x45 + x1)))).bind fun t56 => (some (t56, (⟨x40, (w64 (x45 + x1)), x46⟩ : bytes_Cursor)))) else none) else none) else none) else (some ([], (⟨x40, x45, x46⟩ : bytes_Cursor))))) fun (j49 : (List Int) → Int → GoErr → Option ((List Int) × bytes_Cursor)) => (if x1 < 0 then ((bytes_Cursor_Fail.m x0 (GoErr.no 2)).bind fun t28 => (j49 x0.b' t28.at' t28.err')) else ((bytes_Cursor_Left.m x0).bind fun t31 => (if x1 > t31.1 then ((bytes_Cursor_Fail.m (⟨t31.2.b', t31.2.at', x0.err'⟩ : bytes_Cursor) (GoErr.no 2)).bind fun t37 => (j49 t31.2.b' t37.at' t37.err')) else (j49 t31.2.b' t31.2.at' x0.err')))))

theorem bytes_Cursor_Take.calls {B I : Gh} {h : Heap} {x0 : bytes_Cursor} {x1 : Int} {b0 : Nat} {a21 : Option Addr} {p22 : Nat} {n23 : Nat} {v25 : Value} {r : ((List Int) × bytes_Cursor)} (H : bytes_Cursor_Take.m x0 x1 = some r)  :
    Fc Tryd.prog 11 #[.pointer (some ⟨b0, 0, none⟩), .int .i64 x1] [rB b0 [.slice a21 n23 p22, .int .i64 x0.at', v25] 54, rR (tInt .u8) .i a21 p22 n23 x0.b', rE .i v25 x0.err'] B I h (fun v L => ∃ (a62 : Option Addr) (p63 : Nat) (n64 : Nat) (a66 : Option Addr) (p67 : Nat) (n68 : Nat) (v70 : Value), v = .slice a62 n64 p63 ∧ L = [rO (tInt .u8) .i a62 p63 n64 r.1, rB b0 [.slice a66 n68 p67, .int .i64 r.2.at', v70] 54, rR (tInt .u8) .i a66 p67 n68 r.2.b', rE .i v70 r.2.err']) := by
 refine fc_of fun E hs => ?_
 unfold bytes_Cursor_Take.m at H
 obtain rfl := hs.nR d1
 refine fn_of (args := [.pointer (some ⟨b0, 0, none⟩), .int .i64 x1]) (rs := [.tmp 4]) (N := 45) Tryd.func11 rfl rfl rfl rfl ?_
 refine st 5 [] ?_
 obtain ⟨j49, e61, H⟩ := letJ_some H
 refine k_join (fun ρ h => ∃ (x40 : List Int) (x45 : Int) (x46 : GoErr) (a41 : Option Addr) (p42 : Nat) (n43 : Nat) (v47 : Value) (I : Gh), j49 x40 x45 x46 = some r ∧ Fits [(0, .pointer (some ⟨b0, 0, none⟩)), (1, .int .i64 x1)] ρ ∧ St E [rR (tInt .u8) .i a41 p42 n43 x40, rE .i v47 x46, rB b0 [.slice a41 n43 p42, .int .i64 x45, v47] 54] I h) ?_ ?_
 ·refine st 3 [] (k_ite H (fun c27 H => ?_) (fun c27 H => ?_))
  ·obtain ⟨hk, bk⟩ := hs.call tk1 (.c (xK d1) (.c xC .n))
   refine st 11 [true] (k_call H (fun _ m => bytes_Cursor_Fail.calls m hk) ?_)
   rintro t28 _ h H ⟨I, _, ⟨v29, rfl, rfl⟩, hk⟩
   replace hs := bk hk ct2 rfl
   refine st 1 [] ?_
   exact k_end ⟨x0.b', t28.at', t28.err', a21, p22, x0.b'.length, v29, I, H, ⟨by kernel_rfl, by kernel_rfl, trivial⟩, hs.pk (.c d2 (.c d1 (.c d0 .n)))⟩
  ·obtain ⟨hk, bk⟩ := hs.call tk1 (.c (qK d0) .n)
   refine st 3 [] (k_call H (fun _ m => bytes_Cursor_Left.calls m hk) ?_)
   rintro t31 _ h H ⟨I, _, ⟨a32, p33, n34, rfl, rfl⟩, hk⟩
   replace hs := bk hk ct2 rfl
   obtain rfl := hs.nR d1
   refine k_ite H (fun c36 H => ?_) (fun c36 H => ?_)
   ·obtain ⟨hk, bk⟩ := hs.call tk1 (.c (xK d2) (.c xC .n))
    refine st 6 [true] (k_call H (fun _ m => bytes_Cursor_Fail.calls m hk) ?_)
    rintro t37 _ h H ⟨I, _, ⟨v38, rfl, rfl⟩, hk⟩
    replace hs := bk hk ct2 rfl
    refine st 1 [] ?_
    exact k_end ⟨t31.2.b', t37.at', t37.err', a32, p33, t31.2.b'.length, v38, I, H, ⟨by kernel_rfl, by kernel_rfl, trivial⟩, hs.pk (.c d2 (.c d1 (.c d0 .n)))⟩
   ·refine st 4 [false] ?_
    exact k_end ⟨t31.2.b', t31.2.at', x0.err', a32, p33, t31.2.b'.length, v25, I, H, ⟨by kernel_rfl, by kernel_rfl, trivial⟩, hs.pk (.c d1 (.c d2 (.c d0 .n)))⟩
 ·clear H
  rintro ρ h ⟨x40, x45, x46, a41, p42, n43, v47, I, H, hf, hs⟩
  refine k_fits _ hf ?_ rfl
  subst e61
  try dsimp only at H
  obtain rfl := hs.nR d0
  refine st 6 [] (k_op (lB (hs.bl d2) 2 rfl ?_))
  rcases (hs.er d1).cases with ⟨c50, rfl⟩ | ⟨c50, t51, u52, rfl⟩
  ·rw [if_pos c50] at H
   refine st 9 [false] (k_op (lB (hs.bl d2) 1 rfl ?_))
   refine st 4 [] (k_op (sB (v := .int .i64 (w64 (x45 + x1))) (hs.f d2) cw1 ?_))
   intro h hs
   refine st 2 [] ?_
   obtain ⟨hs0, bk0⟩ := hs.call tk0 (.c (qL d0) (.c (qK d1) .n))
   have hs := hs0
   refine k_regD hs0 17 ?_
   refine aRun [0, 1, 2] 14 hs.keep ?_
   refine aL 3 rfl hs.keep (ll hs0 d0 (n := 0) rfl) (nmL hs0 d0) ?_
   refine aRun [4, 5, 6] 10 hs.keep ?_
   refine aL 7 rfl hs.keep (ll hs0 d0 (n := 1) rfl) (nmL hs0 d0) ?_
   refine aRun [8, 9, 10, 11, 12] 4 hs.keep ?_
   refine aL 13 rfl hs.keep (ll hs0 d0 (n := 1) rfl) (nmL hs0 d0) ?_
   obtain ⟨c53, H⟩ := guard_pos H
   obtain ⟨c54, H⟩ := guard_pos H
   obtain ⟨c55, H⟩ := guard_pos H
   refine aP 14 (.slice (slA a41 p42 (Int.toNat (w64 ((w64 (x45 + x1)) - x1))) 1) ((sub x40 (w64 ((w64 (x45 + x1)) - x1)) (w64 (x45 + x1))).length) (p42 - Int.toNat (w64 ((w64 (x45 + x1)) - x1)))) rfl (pS (e := 5) (k1 := .i64) (k2 := .i64) (hs.sR d1) c53 c54 c55) hs.keep ?_
   obtain ⟨hk, bk⟩ := hs.call tk0 (.c (qP (qI d1) (lo := (w64 ((w64 (x45 + x1)) - x1))) (hi := (w64 (x45 + x1))) c53 c54 c55) .n)
   refine aO1 15 rfl (o_call H (fun _ m => slices_Clone_bytes.calls m hk) ?_)
   rintro t56 _ h H ⟨I, _, ⟨a57, p58, n59, rfl, rfl⟩, hk⟩
   replace hs := bk hk ct1 rfl
   obtain rfl := hs.nO d0
   refine ⟨hs.keep, ?_⟩
   refine aRun [16] 0 hs.keep ?_
   replace hs := hs.pk (.c d0 .n)
   replace hs := bk0 hs ct1 rfl
   refine aEnd ?_
   refine k_retQ ?_
   obtain rfl := Option.some.inj H
   exact ⟨_, by kernel_rfl, I, _, ⟨a57, p58, t56.length, a41, p42, x40.length, (.nilIface), rfl, rfl⟩, hs.pk (.c d0 (.c d0 (.c d0 (.c d0 .n))))⟩
  ·rw [if_neg c50] at H
   refine st 7 [true] ?_
   refine k_retQ ?_
   obtain rfl := Option.some.inj H
   exact ⟨_, by kernel_rfl, I, _, ⟨none, 0, 0, a41, p42, x40.length, ((.iface t51 u52)), rfl, rfl⟩, hs.pk (.f imON (.c d2 (.c d0 (.c d0 .n))))⟩

/-! shutter/attr.Char -/
def attr_Char.m (x0 : Int) : Option Bool :=
  (if x0 = 0 then (some true) else (if x0 = 28 then (some true) else (if x0 = 30 then (some true) else (if x0 ≥ 64 then (some (x0 != 255)) else (some false)))))

theorem attr_Char.calls {x0 : Int} {h : Heap} {r : Bool} (H : attr_Char.m x0 = some r)   :
    Ret Tryd.prog 37 #[.int .u8 x0] h (fun v h' => .bool r = v ∧ h' = h) := by
 unfold attr_Char.m at H
 refine fn_of (args := [.int .u8 x0]) (rs := [.tmp 2]) (N := 15) Tryd.func37 rfl rfl rfl rfl ?_
 refine st 17 [] (k_ite H (fun c21 H => ?_) (fun c21 H => ?_))
 ·refine st 10 [true] ?_
  refine k_retQ ?_
  obtain rfl := Option.some.inj H
  exact ⟨_, by kernel_rfl, rfl, rfl⟩
 ·refine st 7 [false] (k_ite H (fun c22 H => ?_) (fun c22 H => ?_))
  ·refine st 11 [true, true] ?_
   refine k_retQ ?_
   obtain rfl := Option.some.inj H
   exact ⟨_, by kernel_rfl, rfl, rfl⟩
  ·refine st 4 [false] (k_ite H (fun c23 H => ?_) (fun c23 H => ?_))
   ·refine st 9 [true] ?_
    refine k_retQ ?_
    obtain rfl := Option.some.inj H
    exact ⟨_, by kernel_rfl, rfl, rfl⟩
   ·refine st 8 [false] (k_ite H (fun c24 H => ?_) (fun c24 H => ?_))
    ·refine st 6 [] ?_
     refine k_retQ ?_
     obtain rfl := Option.some.inj H
     exact ⟨_, by kernel_rfl, rfl, rfl⟩
    ·refine st 6 [] ?_
     refine k_retQ ?_
     obtain rfl := Option.some.inj H
     exact ⟨_, by kernel_rfl, rfl, rfl⟩

/-! (*shutter/bytes.Cursor).Chars$1 -/
def bytes_Cursor_Chars_1.m (x0 : Int) : Option Bool :=
  ((attr_Char.m x0).bind fun t21 => (some (!t21)))

theorem bytes_Cursor_Chars_1.calls {x0 : Int} {h : Heap} {r : Bool} (H : bytes_Cursor_Chars_1.m x0 = some r)   :
    Ret Tryd.prog 36 #[.int .u8 x0] h (fun v h' => .bool r = v ∧ h' = h) := by
 unfold bytes_Cursor_Chars_1.m at H
 refine fn_of (args := [.int .u8 x0]) (rs := [.tmp 2]) (N := 6) Tryd.func36 rfl rfl rfl rfl ?_
 refine st 7 [] (k_call H (fun _ m => attr_Char.calls m) ?_)
 rintro t21 _ _ H ⟨rfl, rfl⟩
 refine st 3 [] ?_
 refine k_retQ ?_
 obtain rfl := Option.some.inj H
 exact ⟨_, by kernel_rfl, rfl, rfl⟩

/-! slices.IndexFunc[[]byte,byte] -/
def slices_IndexFunc_bytes__bytes_Cursor_Chars_1.l1.m (K : Nat) (x0 : (List Int)) : Nat → Int → Option (Int ⊕ (Unit))
  | 0, _ => none
  | k + 1, x26 => (letJ (α := Bool → Option (Int ⊕ (Unit))) (fun (x31 : Bool) => (bif x31 then (if 0 ≤ x26 then (if x26 < (x0.length : Int) then ((bytes_Cursor_Chars_1.m (at_ x0 x26)).bind fun t35 => bif t35 then (some (Sum.inl x26)) else (slices_IndexFunc_bytes__bytes_Cursor_Chars_1.l1.m K x0 k (w64 (x26 + 1)))) else none) else none) else (some (Sum.inr ())))) fun (j32 : Bool → Option (Int ⊕ (Unit))) => (if x26 < (x0.length : Int) then (j32 true) else (j32 false)))
def slices_IndexFunc_bytes__bytes_Cursor_Chars_1.m (K : Nat) (x0 : (List Int)) : Option Int :=
  ((slices_IndexFunc_bytes__bytes_Cursor_Chars_1.l1.m K x0 K 0).bind fun s27 => match s27 with | .inl q => (some q) | .inr _ => (some (-1)))

theorem slices_IndexFunc_bytes__bytes_Cursor_Chars_1.calls {G : Gh} {K : Nat} {x0 : (List Int)} {a21 : Option Addr} {p22 : Nat} {n23 : Nat} {h : Heap} {r : Int} (H : slices_IndexFunc_bytes__bytes_Cursor_Chars_1.m K x0 = some r)  (s25 : Sn (tInt .u8) G h a21 p22 n23 x0) :
    Ret Tryd.prog 35 #[.slice a21 n23 p22, .func (.func 36) #[] #[]] h (fun v h' => .int .i64 r = v ∧ h' = h) := by
 unfold slices_IndexFunc_bytes__bytes_Cursor_Chars_1.m at H
 obtain rfl := s25.len.symm
 refine fn_of (args := [.slice a21 x0.length p22, .func (.func 36) #[] #[]]) (rs := [.tmp 4]) (N := 19) Tryd.func35 rfl rfl rfl rfl ?_
 refine st 12 [] ?_
 obtain ⟨s27, m29, HR28⟩ := bind_some H
 refine k_loop 0 (fun k' ρ h1 => ∃ (x26 : Int), slices_IndexFunc_bytes__bytes_Cursor_Chars_1.l1.m K x0 k' x26 = some s27 ∧ Fits [(0, .slice a21 x0.length p22), (1, .func (.func 36) #[] #[]), (7, .int .i64 (x0.length : Int)), (8, .int .i64 x26)] ρ ∧ h = h1) (fun ρ h1 => Sum.inr () = s27 ∧ Fits [] ρ ∧ h = h1) K ⟨0, m29, ⟨by kernel_rfl, by kernel_rfl, by kernel_rfl, by kernel_rfl, trivial⟩, rfl⟩ ?_ rfl ?_
 ·clear m29 H
  rintro k' ρ h1 ⟨x26, H, hf, rfl⟩
  cases k' with
  | zero => cases H
  | succ k =>
   rw [slices_IndexFunc_bytes__bytes_Cursor_Chars_1.l1.m] at H
   refine k_fits _ hf ?_ rfl
   refine st 1 [] ?_
   obtain ⟨j32, e36, H⟩ := letJ_some H
   refine k_join (fun ρ h1 => ∃ (x31 : Bool), j32 x31 = some s27 ∧ Fits [(0, .slice a21 x0.length p22), (1, .func (.func 36) #[] #[]), (7, .int .i64 (x0.length : Int)), (8, .int .i64 x26), (9, .bool x31)] ρ ∧ h = h1) ?_ ?_
   ·refine st 1 [] (k_ite H (fun c30 H => ?_) (fun c30 H => ?_))
    ·refine st 1 [] ?_
     exact k_end ⟨true, H, ⟨by kernel_rfl, by kernel_rfl, by kernel_rfl, by kernel_rfl, by kernel_rfl, trivial⟩, rfl⟩
    ·refine st 1 [] ?_
     exact k_end ⟨false, H, ⟨by kernel_rfl, by kernel_rfl, by kernel_rfl, by kernel_rfl, by kernel_rfl, trivial⟩, rfl⟩
   ·clear H
    rintro ρ h1 ⟨x31, H, hf, rfl⟩
    refine k_fits _ hf ?_ rfl
    subst e36
    try dsimp only at H
    cases x31
    ·rw [cond_false] at H
     refine st 2 [false] ?_
     refine k_out rfl ?_
     obtain rfl := Option.some.inj H
     exact xE ⟨rfl, trivial, rfl⟩
    ·rw [cond_true] at H
     obtain ⟨c33, H⟩ := guard_pos H
     obtain ⟨c34, H⟩ := guard_pos H
     refine st 15 [true] (k_val (elemPtr a21 (x26.toNat * 1)) (pI (e := 5) (ik := .i64) s25 c33 c34) ?_)
     refine k_op (lC (s25.cell1 c33 c34) ?_)
     refine k_call H (fun _ m => bytes_Cursor_Chars_1.calls m) ?_
     rintro t35 _ _ H ⟨rfl, rfl⟩
     cases t35
     ·rw [cond_false] at H
      refine st 8 [false] ?_
      exact k_endL ⟨k, Nat.lt_succ_self _, (w64 (x26 + 1)), H, ⟨by kernel_rfl, by kernel_rfl, by kernel_rfl, by kernel_rfl, trivial⟩, rfl⟩
     ·rw [cond_true] at H
      refine st 7 [true] ?_
      refine k_retQ (krL ?_)
      obtain rfl := Option.some.inj H
      obtain rfl := Option.some.inj HR28
      exact ⟨_, by kernel_rfl, rfl, rfl⟩
 ·rintro ρ h1 ⟨rfl, hf, rfl⟩
  have H := HR28
  try dsimp only at H
  refine k_fits _ hf ?_ rfl
  refine st 4 [] ?_
  refine k_retQ ?_
  obtain rfl := Option.some.inj H
  exact ⟨_, by kernel_rfl, rfl, rfl⟩

/-! (*shutter/bytes.Cursor).Chars -/
def bytes_Cursor_Chars.m (K : Nat) (x0 : bytes_Cursor) : Option ((List Int) × bytes_Cursor) :=
  (if x0.err' = GoErr.nil then (if 0 ≤ x0.at' then (if x0.at' ≤ (x0.b'.length : Int) then ((slices_IndexFunc_bytes__bytes_Cursor_Chars_1.m K (sub x0.b' x0.at' (x0.b'.length : Int))).bind fun t32 => (if t32 < 0 then ((bytes_Cursor_Left.m x0).bind fun t34 => ((bytes_Cursor_Take.m (⟨t34.2.b', t34.2.at', x0.err'⟩ : bytes_Cursor) t34.1).bind fun t39 => (some (t39.1, t39.2)))) else ((bytes_Cursor_Take.m x0 t32).bind fun t50 => (some (t50.1, t50.2))))) else none) else none) else (some ([], x0)))

theorem bytes_Cursor_Chars.calls {B I : Gh} {h : Heap} {K : Nat} {x0 : bytes_Cursor} {b0 : Nat} {a21 : Option Addr} {p22 : Nat} {n23 : Nat} {v25 : Value} {r : ((List Int) × bytes_Cursor)} (H : bytes_Cursor_Chars.m K x0 = some r)  :
    Fc Tryd.prog 21 #[.pointer (some ⟨b0, 0, none⟩)] [rB b0 [.slice a21 n23 p22, .int .i64 x0.at', v25] 54, rR (tInt .u8) .i a21 p22 n23 x0.b', rE .i v25 x0.err'] B I h (fun v L => ∃ (a61 : Option Addr) (p62 : Nat) (n63 : Nat) (a65 : Option Addr) (p66 : Nat) (n67 : Nat) (v69 : Value), v = .slice a61 n63 p62 ∧ L = [rO (tInt .u8) .i a61 p62 n63 r.1, rB b0 [.slice a65 n67 p66, .int .i64 r.2.at', v69] 54, rR (tInt .u8) .i a65 p66 n67 r.2.b', rE .i v69 r.2.err']) := by
 refine fc_of fun E hs => ?_
 unfold bytes_Cursor_Chars.m at H
 obtain rfl := hs.nR d1
 refine fn_of (args := [.pointer (some ⟨b0, 0, none⟩)]) (rs := [.tmp 2]) (N := 26) Tryd.func21 rfl rfl rfl rfl ?_
 refine st 10 [] (k_op (lB (hs.bl d0) 2 rfl ?_))
 rcases (hs.er d2).cases with ⟨c27, rfl⟩ | ⟨c27, t28, u29, rfl⟩
 ·rw [if_pos c27] at H
  refine st 5 [false] ?_
  obtain ⟨hs0, bk0⟩ := hs.call tk0 (.c (qL d0) (.c (qK d1) .n))
  have hs := hs0
  refine k_regD hs0 11 ?_
  refine aRun [0, 1, 2] 8 hs.keep ?_
  refine aL 3 rfl hs.keep (ll hs0 d0 (n := 0) rfl) (nmL hs0 d0) ?_
  refine aRun [4, 5, 6] 4 hs.keep ?_
  refine aL 7 rfl hs.keep (ll hs0 d0 (n := 1) rfl) (nmL hs0 d0) ?_
  obtain ⟨c30, H⟩ := guard_pos H
  obtain ⟨c31, H⟩ := guard_pos H
  refine aP 8 (.slice (slA a21 p22 (Int.toNat x0.at') 1) ((sub x0.b' x0.at' (x0.b'.length : Int)).length) (p22 - Int.toNat x0.at')) rfl (pSl (e := 5) (k1 := .i64) (hs.sR d1) c30 c31 (Int.le_refl _)) hs.keep ?_
  refine aO1 9 rfl (o_call H (fun _ m => slices_IndexFunc_bytes__bytes_Cursor_Chars_1.calls m (Sn.part (hs.sR d1) (lo := x0.at') (hi := (x0.b'.length : Int)) c30 c31 (Int.le_refl _))) ?_)
  rintro t32 _ _ H ⟨rfl, rfl⟩
  refine ⟨hs.keep, ?_⟩
  refine aRun [10] 0 hs.keep ?_
  replace hs := hs.pk .n
  replace hs := bk0 hs ct0 rfl
  refine aEnd ?_
  refine st 4 [] (k_ite H (fun c33 H => ?_) (fun c33 H => ?_))
  ·obtain ⟨hk, bk⟩ := hs.call tk1 (.c (qK d0) .n)
   refine st 4 [true] (k_call H (fun _ m => bytes_Cursor_Left.calls m hk) ?_)
   rintro t34 _ h H ⟨I, _, ⟨a35, p36, n37, rfl, rfl⟩, hk⟩
   replace hs := bk hk ct2 rfl
   obtain rfl := hs.nR d1
   obtain ⟨hk, bk⟩ := hs.call tk1 (.c (qK d0) (.c (xK d2) .n))
   refine st 6 [] (k_call H (fun _ m => bytes_Cursor_Take.calls m hk) ?_)
   rintro t39 _ h H ⟨I, _, ⟨a40, p41, n42, a44, p45, n46, v48, rfl, rfl⟩, hk⟩
   replace hs := bk hk ct4 rfl
   obtain rfl := hs.nO d0
   obtain rfl := hs.nR d2
   refine st 2 [] ?_
   refine k_retQ ?_
   obtain rfl := Option.some.inj H
   exact ⟨_, by kernel_rfl, I, _, ⟨a40, p41, t39.1.length, a44, p45, t39.2.b'.length, (v48), rfl, rfl⟩, hs.pk (.c d0 (.c d0 (.c d0 (.c d0 .n))))⟩
  ·obtain ⟨hk, bk⟩ := hs.call tk1 (.c (qK d0) (.c (xK d1) .n))
   refine st 7 [false] (k_call H (fun _ m => bytes_Cursor_Take.calls m hk) ?_)
   rintro t50 _ h H ⟨I, _, ⟨a51, p52, n53, a55, p56, n57, v59, rfl, rfl⟩, hk⟩
   replace hs := bk hk ct4 rfl
   obtain rfl := hs.nO d0
   obtain rfl := hs.nR d2
   refine st 2 [] ?_
   refine k_retQ ?_
   obtain rfl := Option.some.inj H
   exact ⟨_, by kernel_rfl, I, _, ⟨a51, p52, t50.1.length, a55, p56, t50.2.b'.length, (v59), rfl, rfl⟩, hs.pk (.c d0 (.c d0 (.c d0 (.c d0 .n))))⟩
 ·rw [if_neg c27] at H
  refine st 7 [true] ?_
  refine k_retQ ?_
  obtain rfl := Option.some.inj H
  exact ⟨_, by kernel_rfl, I, _, ⟨none, 0, 0, a21, p22, x0.b'.length, ((.iface t28 u29)), rfl, rfl⟩, hs.pk (.f imON (.c d0 (.c d0 (.c d0 .n))))⟩

/-! (*shutter/bytes.Cursor).Byte -/
def bytes_Cursor_Byte.m (x0 : bytes_Cursor) : Option (Int × bytes_Cursor) :=
  ((bytes_Cursor_Take.m x0 1).bind fun t27 => (if (t27.1.length : Int) = 0 then (some (0, t27.2)) else (if 0 < (t27.1.length : Int) then (some ((at_ t27.1 0), t27.2)) else none)))

theorem bytes_Cursor_Byte.calls {B I : Gh} {h : Heap} {x0 : bytes_Cursor} {b0 : Nat} {a21 : Option Addr} {p22 : Nat} {n23 : Nat} {v25 : Value} {r : (Int × bytes_Cursor)} (H : bytes_Cursor_Byte.m x0 = some r)  :
    Fc Tryd.prog 22 #[.pointer (some ⟨b0, 0, none⟩)] [rB b0 [.slice a21 n23 p22, .int .i64 x0.at', v25] 54, rR (tInt .u8) .i a21 p22 n23 x0.b', rE .i v25 x0.err'] B I h (fun v L => ∃ (a40 : Option Addr) (p41 : Nat) (n42 : Nat) (v44 : Value), v = .int .u8 r.1 ∧ L = [rB b0 [.slice a40 n42 p41, .int .i64 r.2.at', v44] 54, rR (tInt .u8) .i a40 p41 n42 r.2.b', rE .i v44 r.2.err']) := by
 refine fc_of fun E hs => ?_
 unfold bytes_Cursor_Byte.m at H
 obtain rfl := hs.nR d1
 refine fn_of (args := [.pointer (some ⟨b0, 0, none⟩)]) (rs := [.tmp 2]) (N := 12) Tryd.func22 rfl rfl rfl rfl ?_
 obtain ⟨hk, bk⟩ := hs.call tk1 (.c (qK d0) (.c (xK d1) .n))
 refine st 7 [] (k_call H (fun _ m => bytes_Cursor_Take.calls m hk) ?_)
 rintro t27 _ h H ⟨I, _, ⟨a28, p29, n30, a32, p33, n34, v36, rfl, rfl⟩, hk⟩
 replace hs := bk hk ct4 rfl
 obtain rfl := hs.nO d0
 obtain rfl := hs.nR d2
 refine st 7 [] (k_ite H (fun c38 H => ?_) (fun c38 H => ?_))
 ·refine st 6 [true] ?_
  refine k_retQ ?_
  obtain rfl := Option.some.inj H
  exact ⟨_, by kernel_rfl, I, _, ⟨a32, p33, t27.2.b'.length, (v36), rfl, rfl⟩, hs.pk (.c d1 (.c d1 (.c d1 .n)))⟩
 ·obtain ⟨c39, H⟩ := guard_pos H
  refine st 6 [false] (k_val (elemPtr a28 ((0 : Int).toNat * 1)) (pI (e := 5) (ik := .i64) (hs.sO d0) (by decide) c39) ?_)
  refine k_op (lC ((hs.sO d0).cell1 (by decide) c39) ?_)
  refine st 2 [] ?_
  refine k_retQ ?_
  obtain rfl := Option.some.inj H
  exact ⟨_, by kernel_rfl, I, _, ⟨a32, p33, t27.2.b'.length, (v36), rfl, rfl⟩, hs.pk (.c d1 (.c d1 (.c d1 .n)))⟩

/-! (*shutter/bytes.Cursor).Err -/
def bytes_Cursor_Err.m (x0 : bytes_Cursor) : Option (GoErr × bytes_Cursor) :=
  (some (x0.err', x0))

theorem bytes_Cursor_Err.calls {B I : Gh} {h : Heap} {x0 : bytes_Cursor} {b0 : Nat} {v21 : Value} {v22 : Value} {r : (GoErr × bytes_Cursor)} (H : bytes_Cursor_Err.m x0 = some r)  :
    Fc Tryd.prog 23 #[.pointer (some ⟨b0, 0, none⟩)] [rB b0 [v21, .int .i64 x0.at', v22] 54, rE .i v22 x0.err'] B I h (fun v L => ∃ (v25 : Value) (v27 : Value), v = v25 ∧ L = [rE .i v25 r.1, rB b0 [v21, .int .i64 r.2.at', v27] 54, rE .i v27 r.2.err']) := by
 refine fc_of fun E hs => ?_
 unfold bytes_Cursor_Err.m at H
 refine fn_of (args := [.pointer (some ⟨b0, 0, none⟩)]) (rs := [.tmp 2]) (N := 7) Tryd.func23 rfl rfl rfl rfl ?_
 refine st 9 [] (k_op (lB (hs.bl d0) 2 rfl ?_))
 refine st 2 [] ?_
 replace hs := hs.dup d1 (fun _ x => x)
 refine k_retQ ?_
 obtain rfl := Option.some.inj H
 exact ⟨_, by kernel_rfl, I, _, ⟨(v22), (v22), rfl, rfl⟩, hs.pk (.c d2 (.c d1 (.c d0 .n)))⟩

/-! shutter/api.Where -/
def api_Where.m (x0 : GoErr) : Option Int := some (whereOf x0)
theorem api_Where.calls {B I : Gh} {h : Heap} {x0 : GoErr} {v1 : Value} {r : Int} (H : api_Where.m x0 = some r) : Fc Tryd.prog 24 #[v1] [rE .b v1 x0, rG] B I h (fun v L => v = .int .i64 r ∧ L = []) :=
  Where_fc (Option.some.inj H)

/-! (*shutter/bytes.Cursor).At -/
def bytes_Cursor_At.m (x0 : bytes_Cursor) : Option (Int × bytes_Cursor) :=
  (some (x0.at', x0))

theorem bytes_Cursor_At.calls {B I : Gh} {h : Heap} {x0 : bytes_Cursor} {b0 : Nat} {v21 : Value} {v22 : Value} {r : (Int × bytes_Cursor)} (H : bytes_Cursor_At.m x0 = some r)  :
    Fc Tryd.prog 25 #[.pointer (some ⟨b0, 0, none⟩)] [rB b0 [v21, .int .i64 x0.at', v22] 54] B I h (fun v L => v = .int .i64 r.1 ∧ L = [rB b0 [v21, .int .i64 r.2.at', v22] 54]) := by
 refine fc_of fun E hs => ?_
 unfold bytes_Cursor_At.m at H
 refine fn_of (args := [.pointer (some ⟨b0, 0, none⟩)]) (rs := [.tmp 2]) (N := 7) Tryd.func25 rfl rfl rfl rfl ?_
 refine st 9 [] (k_op (lB (hs.bl d0) 1 rfl ?_))
 refine st 2 [] ?_
 refine k_retQ ?_
 obtain rfl := Option.some.inj H
 exact ⟨_, by kernel_rfl, I, _, ⟨rfl, rfl⟩, hs.pk (.c d0 .n)⟩

/-! shutter/shutterlaw06.awake -/
def shutterlaw06_awake.m (K : Nat)  : Option Bool :=
  ((bytes_New.m [64, 193, 17]).bind fun t23 => ((bytes_Cursor_Chars.m K t23).bind fun t31 => ((bytes_Cursor_Byte.m t31.2).bind fun t42 => ((bytes_Cursor_Byte.m t42.2).bind fun t49 => (if (t31.1.length : Int) = 2 then (if 1 < (t31.1.length : Int) then (if (at_ t31.1 1) = 193 then (if t42.1 = 17 then (if t49.1 = 0 then ((bytes_Cursor_Err.m t49.2).bind fun t61 => ((api_Code.m t61.1).bind fun t66 => (if t66 = 2 then ((bytes_Cursor_Err.m (⟨t49.2.b', t61.2.at', t61.2.err'⟩ : bytes_Cursor)).bind fun t68 => ((api_Where.m t68.1).bind fun t73 => (if t73 = 3 then ((bytes_Cursor_At.m (⟨t49.2.b', t68.2.at', t68.2.err'⟩ : bytes_Cursor)).bind fun t75 => (some (t75.1 == 3))) else (some false)))) else (some false)))) else (some false)) else (some false)) else (some false)) else none) else (some false))))))

theorem shutterlaw06_awake.calls {B I : Gh} {h : Heap} {K : Nat} {r : Bool} (H : shutterlaw06_awake.m K = some r)  :
    Fc Tryd.prog 9 #[] [rG] B I h (fun v L => v = .bool r ∧ L = []) := by
 refine fc_of fun E hs => ?_
 unfold shutterlaw06_awake.m at H
 refine fn_of (args := []) (rs := [.tmp 0]) (N := 49) Tryd.func9 rfl rfl rfl rfl ?_
 refine st 6 [] (k_op (nS (e := 5) hs .i (tInt .u8) ([64, 193, 17] : List Int) [.int .u8 64, .int .u8 193, .int .u8 17] 1 (.int .u8 0) (Reps.int (I := (Cl.G .i E.B I)) (k := .u8) (l := [64, 193, 17])) ?_))
 intro b21 h hs
 obtain ⟨hk, bk⟩ := hs.call tk0 (.c (qO d0) .n)
 refine k_call H (fun _ m => bytes_New.calls m hk) ?_
 rintro t23 _ h H ⟨I, _, ⟨b24, a25, p26, n27, v29, rfl, rfl⟩, hk⟩
 replace hs := bk hk ct3 rfl
 obtain rfl := hs.nR d1
 obtain ⟨hk, bk⟩ := hs.call tk1 (.c (qK d0) (.c (xK d1) .n))
 refine st 13 [false] (k_call H (fun _ m => bytes_Cursor_Chars.calls m hk) ?_)
 rintro t31 _ h H ⟨I, _, ⟨a32, p33, n34, a36, p37, n38, v40, rfl, rfl⟩, hk⟩
 replace hs := bk hk ct4 rfl
 obtain rfl := hs.nO d0
 obtain rfl := hs.nR d2
 obtain ⟨hk, bk⟩ := (hs.f d1).call tk1 (.c (qK d1) (.c (xK d2) .n))
 refine st 5 [] (k_call H (fun _ m => bytes_Cursor_Byte.calls m hk) ?_)
 rintro t42 _ h H ⟨I, _, ⟨a43, p44, n45, v47, rfl, rfl⟩, hk⟩
 replace hs := bk hk ct3 rfl
 obtain rfl := hs.nR d1
 obtain ⟨hk, bk⟩ := hs.call tk1 (.c (qK d0) (.c (xK d1) .n))
 refine st 5 [] (k_call H (fun _ m => bytes_Cursor_Byte.calls m hk) ?_)
 rintro t49 _ h H ⟨I, _, ⟨a50, p51, n52, v54, rfl, rfl⟩, hk⟩
 replace hs := bk hk ct3 rfl
 obtain rfl := hs.nR d1
 refine st 6 [] (k_ite H (fun c56 H => ?_) (fun c56 H => ?_))
 ·obtain ⟨c57, H⟩ := guard_pos H
  refine st 2 [] (k_val (elemPtr a32 ((1 : Int).toNat * 1)) (pI (e := 5) (ik := .i64) (hs.sO d5) (by decide) c57) ?_)
  refine k_op (lC ((hs.sO d5).cell1 (by decide) c57) ?_)
  refine k_ite H (fun c58 H => ?_) (fun c58 H => ?_)
  ·refine st 3 [] (k_ite H (fun c59 H => ?_) (fun c59 H => ?_))
   ·refine st 3 [] (k_ite H (fun c60 H => ?_) (fun c60 H => ?_))
    ·obtain ⟨hk, bk⟩ := hs.call tk1 (.c (xK d1) .n)
     refine st 3 [] (k_call H (fun _ m => bytes_Cursor_Err.calls m hk) ?_)
     rintro t61 _ h H ⟨I, _, ⟨v62, v64, rfl, rfl⟩, hk⟩
     replace hs := bk hk ct3 rfl
     obtain ⟨hk, bk⟩ := hs.call tk0 (.c (xI d0) (.c (gK d13) .n))
     refine k_call H (fun _ m => api_Code.calls m hk) ?_
     rintro t66 _ h H ⟨I, _, ⟨rfl, rfl⟩, hk⟩
     replace hs := bk hk ct0 rfl
     refine k_ite H (fun c67 H => ?_) (fun c67 H => ?_)
     ·obtain ⟨hk, bk⟩ := (hs.f d1).call tk1 (.c (xK d1) .n)
      refine st 3 [] (k_call H (fun _ m => bytes_Cursor_Err.calls m hk) ?_)
      rintro t68 _ h H ⟨I, _, ⟨v69, v71, rfl, rfl⟩, hk⟩
      replace hs := bk hk ct3 rfl
      obtain ⟨hk, bk⟩ := hs.call tk0 (.c (xI d0) (.c (gK d15) .n))
      refine k_call H (fun _ m => api_Where.calls m hk) ?_
      rintro t73 _ h H ⟨I, _, ⟨rfl, rfl⟩, hk⟩
      replace hs := bk hk ct0 rfl
      refine k_ite H (fun c74 H => ?_) (fun c74 H => ?_)
      ·obtain ⟨hk, bk⟩ := (hs.f d1).call tk1 .n
       refine st 3 [] (k_call H (fun _ m => bytes_Cursor_At.calls m hk) ?_)
       rintro t75 _ h H ⟨I, _, ⟨rfl, rfl⟩, hk⟩
       replace hs := bk hk ct1 rfl
       refine st 4 [] ?_
       refine k_retQ ?_
       obtain rfl := Option.some.inj H
       exact ⟨_, by kernel_rfl, I, _, ⟨rfl, rfl⟩, hs.pk .n⟩
      ·refine st 8 [] ?_
       refine k_retQ ?_
       obtain rfl := Option.some.inj H
       exact ⟨_, by kernel_rfl, I, _, ⟨rfl, rfl⟩, hs.pk .n⟩
     ·refine st 14 [] ?_
      refine k_retQ ?_
      obtain rfl := Option.some.inj H
      exact ⟨_, by kernel_rfl, I, _, ⟨rfl, rfl⟩, hs.pk .n⟩
    ·refine st 20 [] ?_
     refine k_retQ ?_
     obtain rfl := Option.some.inj H
     exact ⟨_, by kernel_rfl, I, _, ⟨rfl, rfl⟩, hs.pk .n⟩
   ·refine st 24 [] ?_
    refine k_retQ ?_
    obtain rfl := Option.some.inj H
    exact ⟨_, by kernel_rfl, I, _, ⟨rfl, rfl⟩, hs.pk .n⟩
  ·refine st 28 [] ?_
   refine k_retQ ?_
   obtain rfl := Option.some.inj H
   exact ⟨_, by kernel_rfl, I, _, ⟨rfl, rfl⟩, hs.pk .n⟩
 ·refine st 33 [] ?_
  refine k_retQ ?_
  obtain rfl := Option.some.inj H
  exact ⟨_, by kernel_rfl, I, _, ⟨rfl, rfl⟩, hs.pk .n⟩

/-! shutter/shutterref01.Same -/
def shutterref01_Same.l1.m (K : Nat) (x0 : (List Int)) (x1 : (List Int)) : Nat → Int → Option (Bool ⊕ (Unit))
  | 0, _ => none
  | k + 1, x32 => (if x32 < (x0.length : Int) then (if 0 ≤ x32 then (if x32 < (x1.length : Int) then (if (at_ x0 x32) = (at_ x1 x32) then (shutterref01_Same.l1.m K x0 x1 k (w64 (x32 + 1))) else (some (Sum.inl false))) else none) else none) else (some (Sum.inr ())))
def shutterref01_Same.m (K : Nat) (x0 : (List Int)) (x1 : (List Int)) : Option Bool :=
  (if (x0.length : Int) = (x1.length : Int) then ((shutterref01_Same.l1.m K x0 x1 K 0).bind fun s33 => match s33 with | .inl q => (some q) | .inr _ => (some true)) else (some false))

theorem shutterref01_Same.calls {G : Gh} {K : Nat} {x0 : (List Int)} {x1 : (List Int)} {a21 : Option Addr} {p22 : Nat} {n23 : Nat} {a25 : Option Addr} {p26 : Nat} {n27 : Nat} {h : Heap} {r : Bool} (H : shutterref01_Same.m K x0 x1 = some r)  (s29 : Sn (tInt .u8) G h a21 p22 n23 x0) (s30 : Sn (tInt .u8) G h a25 p26 n27 x1) :
    Ret Tryd.prog 12 #[.slice a21 n23 p22, .slice a25 n27 p26] h (fun v h' => .bool r = v ∧ h' = h) := by
 unfold shutterref01_Same.m at H
 obtain rfl := s29.len.symm
 obtain rfl := s30.len.symm
 refine fn_of (args := [.slice a21 x0.length p22, .slice a25 x1.length p26]) (rs := [.tmp 4]) (N := 26) Tryd.func12 rfl rfl rfl rfl ?_
 refine st 11 [] (k_iteN H (fun c31 H => ?_) (fun c31 H => ?_))
 ·refine st 9 [false] ?_
  obtain ⟨s33, m35, HR34⟩ := bind_some H
  refine k_loop 0 (fun k' ρ h1 => ∃ (x32 : Int), shutterref01_Same.l1.m K x0 x1 k' x32 = some s33 ∧ Fits [(0, .slice a21 x0.length p22), (1, .slice a25 x1.length p26), (5, .int .i64 x32)] ρ ∧ h = h1) (fun ρ h1 => Sum.inr () = s33 ∧ Fits [] ρ ∧ h = h1) K ⟨0, m35, ⟨by kernel_rfl, by kernel_rfl, by kernel_rfl, trivial⟩, rfl⟩ ?_ rfl ?_
  ·clear m35 H
   rintro k' ρ h1 ⟨x32, H, hf, rfl⟩
   cases k' with
   | zero => cases H
   | succ k =>
    rw [shutterref01_Same.l1.m] at H
    refine k_fits _ hf ?_ rfl
    refine st 6 [] (k_ite H (fun c36 H => ?_) (fun c36 H => ?_))
    ·refine st 6 [true] ?_
     refine k_regP 9 ?_
     obtain ⟨c37, H⟩ := guard_pos H
     refine aRun [0, 1] 7 Keep.refl ?_
     refine aP 2 (elemPtr a21 (x32.toNat * 1)) rfl (pI (e := 5) (ik := .i64) s29 c37 c36) Keep.refl ?_
     refine aL 3 rfl Keep.refl (s29.cell1 c37 c36) (fun _ _ x => x) ?_
     obtain ⟨c38, H⟩ := guard_pos H
     refine aRun [4, 5] 3 Keep.refl ?_
     refine aP 6 (elemPtr a25 (x32.toNat * 1)) rfl (pI (e := 5) (ik := .i64) s30 c37 c38) Keep.refl ?_
     refine aL 7 rfl Keep.refl (s30.cell1 c37 c38) (fun _ _ x => x) ?_
     by_cases c39 : (at_ x0 x32) = (at_ x1 x32)
     ·rw [if_pos c39] at H
      refine aP 8 (.bool false) rfl (pr_bool (by kernel_rfl) (neF c39)) Keep.refl ?_
      refine aEnd ?_
      refine st 8 [false] ?_
      exact k_endL ⟨k, Nat.lt_succ_self _, (w64 (x32 + 1)), H, ⟨by kernel_rfl, by kernel_rfl, by kernel_rfl, trivial⟩, rfl⟩
     ·rw [if_neg c39] at H
      refine aP 8 (.bool true) rfl (pr_bool (by kernel_rfl) (neT c39)) Keep.refl ?_
      refine aEnd ?_
      refine st 5 [true] ?_
      refine k_retQ (krL ?_)
      obtain rfl := Option.some.inj H
      obtain rfl := Option.some.inj HR34
      exact ⟨_, by kernel_rfl, rfl, rfl⟩
    ·refine st 2 [false] ?_
     refine k_out rfl ?_
     obtain rfl := Option.some.inj H
     exact xE ⟨rfl, trivial, rfl⟩
  ·rintro ρ h1 ⟨rfl, hf, rfl⟩
   have H := HR34
   try dsimp only at H
   refine k_fits _ hf ?_ rfl
   refine st 4 [] ?_
   refine k_retQ ?_
   obtain rfl := Option.some.inj H
   exact ⟨_, by kernel_rfl, rfl, rfl⟩
 ·refine st 6 [true] ?_
  refine k_retQ ?_
  obtain rfl := Option.some.inj H
  exact ⟨_, by kernel_rfl, rfl, rfl⟩

/-! shutter/shutterlaw06.BytesKeeps -/
def shutterlaw06_BytesKeeps.l1.m (K : Nat) : Nat → (List Int) → Int → Option ((List Int))
  | 0, _, _ => none
  | k + 1, x51, x56 => (if x56 < (x51.length : Int) then (if 0 ≤ x56 then (shutterlaw06_BytesKeeps.l1.m K k (x51.set x56.toNat (bXor .u8 (at_ x51 x56) 255)) (w64 (x56 + 1))) else none) else (some (x51)))
def shutterlaw06_BytesKeeps.l2.m (K : Nat) : Nat → (List Int) → Int → Option ((List Int))
  | 0, _, _ => none
  | k + 1, x81, x86 => (if x86 < (x81.length : Int) then (if 0 ≤ x86 then (shutterlaw06_BytesKeeps.l2.m K k (x81.set x86.toNat (bXor .u8 (at_ x81 x86) 255)) (w64 (x86 + 1))) else none) else (some (x81)))
def shutterlaw06_BytesKeeps.m (K : Nat) (x0 : (List Int)) : Option Bool :=
  ((shutterlaw06_awake.m K).bind fun t25 => bif t25 then (if (x0.length : Int) > 300 then ((shutterlaw06_awake.m K).bind fun t27 => (some t27)) else ((app [] x0).bind fun l30 => ((bytes_New.m l30).bind fun t35 => ((bytes_New.m x0).bind fun t43 => ((shutterlaw06_BytesKeeps.l1.m K K l30 0).bind fun x58 => ((bytes_Cursor_Take.m t43 (x0.length : Int)).bind fun t70 => ((shutterlaw06_BytesKeeps.l2.m K K t70.1 0).bind fun x88 => ((bytes_Cursor_Take.m t35 (x0.length : Int)).bind fun t100 => ((shutterref01_Same.m K t100.1 x0).bind fun t111 => bif t111 then ((shutterref01_Same.m K x88 x58).bind fun t112 => (some t112)) else (some false)))))))))) else ((shutterlaw06_awake.m K).bind fun t113 => (some t113)))

theorem shutterlaw06_BytesKeeps.calls {B I : Gh} {h : Heap} {K : Nat} {x0 : (List Int)} {a21 : Option Addr} {p22 : Nat} {n23 : Nat} {r : Bool} (H : shutterlaw06_BytesKeeps.m K x0 = some r)  :
    Fc Tryd.prog 3 #[.slice a21 n23 p22] [rR (tInt .u8) .b a21 p22 n23 x0, rG] B I h (fun v L => v = .bool r ∧ L = []) := by
 refine fc_of fun E hs => ?_
 unfold shutterlaw06_BytesKeeps.m at H
 obtain rfl := hs.nR d0
 refine fn_of (args := [.slice a21 x0.length p22]) (rs := [.tmp 2]) (N := 73) Tryd.func3 rfl rfl rfl rfl ?_
 obtain ⟨hk, bk⟩ := hs.call tk0 (.c (gK d1) .n)
 refine st 7 [] (k_call H (fun _ m => shutterlaw06_awake.calls m hk) ?_)
 rintro t25 _ h H ⟨I, _, ⟨rfl, rfl⟩, hk⟩
 replace hs := bk hk ct0 rfl
 cases t25
 ·rw [cond_false] at H
  obtain ⟨hk, bk⟩ := hs.call tk0 (.c (gK d1) .n)
  refine st 10 [true] (k_call H (fun _ m => shutterlaw06_awake.calls m hk) ?_)
  rintro t113 _ h H ⟨I, _, ⟨rfl, rfl⟩, hk⟩
  replace hs := bk hk ct0 rfl
  refine st 2 [] ?_
  refine k_retQ ?_
  obtain rfl := Option.some.inj H
  exact ⟨_, by kernel_rfl, I, _, ⟨rfl, rfl⟩, hs.pk .n⟩
 ·rw [cond_true] at H
  refine st 4 [] (k_ite H (fun c26 H => ?_) (fun c26 H => ?_))
  ·obtain ⟨hk, bk⟩ := hs.call tk0 (.c (gK d1) .n)
   refine st 5 [true] (k_call H (fun _ m => shutterlaw06_awake.calls m hk) ?_)
   rintro t27 _ h H ⟨I, _, ⟨rfl, rfl⟩, hk⟩
   replace hs := bk hk ct0 rfl
   refine st 2 [] ?_
   refine k_retQ ?_
   obtain rfl := Option.some.inj H
   exact ⟨_, by kernel_rfl, I, _, ⟨rfl, rfl⟩, hs.pk .n⟩
  ·refine st 6 [false] (k_op (nS (e := 5) hs .i (tInt .u8) ([] : List Int) [] 1 (.int .u8 0) (Reps.int (I := (Cl.G .i E.B I)) (k := .u8) (l := [])) ?_))
   intro b28 h hs
   obtain ⟨l30, m31, H⟩ := bind_some H
   refine st 1 [] (k_op (aO (e := 5) (bytes := 1) hs ((hs.sR d1).flat flat_int) m31 ?_))
   intro a32 p33 h hs
   obtain ⟨hk, bk⟩ := hs.call tk0 (.c (qO d0) .n)
   refine st 5 [] (k_call H (fun _ m => bytes_New.calls m hk) ?_)
   rintro t35 _ h H ⟨I, _, ⟨b36, a37, p38, n39, v41, rfl, rfl⟩, hk⟩
   replace hs := bk hk ct3 rfl
   obtain rfl := hs.nR d1
   obtain ⟨hk, bk⟩ := hs.call tk0 (.c (qB d4) .n)
   refine st 5 [] (k_call H (fun _ m => bytes_New.calls m hk) ?_)
   rintro t43 _ h H ⟨I, _, ⟨b44, a45, p46, n47, v49, rfl, rfl⟩, hk⟩
   replace hs := bk hk ct3 rfl
   obtain rfl := hs.nR d1
   refine st 20 [false] ?_
   obtain ⟨s57, m64, HR63⟩ := bind_some H
   refine k_loop 0 (fun k' ρ h => ∃ (x51 : List Int) (x56 : Int) (a52 : Option Addr) (p53 : Nat) (n54 : Nat) (I : Gh), shutterlaw06_BytesKeeps.l1.m K k' x51 x56 = some s57 ∧ Fits [(0, .slice a21 x0.length p22), (3, .slice a52 n54 p53), (4, .pointer (some ⟨b36, 0, none⟩)), (5, .pointer (some ⟨b44, 0, none⟩)), (6, .int .i64 x56)] ρ ∧ St E [rR (tInt .u8) .b a21 p22 x0.length x0, rO (tInt .u8) .i a52 p53 n54 x51, rR (tInt .u8) .i a37 p38 t35.b'.length t35.b', rE .i v41 t35.err', rB b36 [.slice a37 t35.b'.length p38, .int .i64 t35.at', v41] 54, rR (tInt .u8) .i a45 p46 t43.b'.length t43.b', rE .i v49 t43.err', rB b44 [.slice a45 t43.b'.length p46, .int .i64 t43.at', v49] 54, rG] I h) (fun ρ h => ∃ (x58 : List Int) (a59 : Option Addr) (p60 : Nat) (n61 : Nat) (I : Gh), x58 = s57 ∧ Fits [(0, .slice a21 x0.length p22), (3, .slice a59 n61 p60), (4, .pointer (some ⟨b36, 0, none⟩)), (5, .pointer (some ⟨b44, 0, none⟩))] ρ ∧ St E [rR (tInt .u8) .b a21 p22 x0.length x0, rO (tInt .u8) .i a59 p60 n61 x58, rR (tInt .u8) .i a37 p38 t35.b'.length t35.b', rE .i v41 t35.err', rB b36 [.slice a37 t35.b'.length p38, .int .i64 t35.at', v41] 54, rR (tInt .u8) .i a45 p46 t43.b'.length t43.b', rE .i v49 t43.err', rB b44 [.slice a45 t43.b'.length p46, .int .i64 t43.at', v49] 54, rG] I h) K ⟨l30, 0, a32, p33, l30.length, I, m64, ⟨by kernel_rfl, by kernel_rfl, by kernel_rfl, by kernel_rfl, by kernel_rfl, trivial⟩, hs.pk (.c d7 (.c d6 (.c d4 (.c d4 (.c d3 (.c d1 (.c d1 (.c d0 (.c d0 .n)))))))))⟩ ?_ rfl ?_
   ·clear HR63 m64 H
    rintro k' ρ h ⟨x51, x56, a52, p53, n54, I, H, hf, hs⟩
    cases k' with
    | zero => cases H
    | succ k =>
     rw [shutterlaw06_BytesKeeps.l1.m] at H
     refine k_fits _ hf ?_ rfl
     obtain rfl := hs.nO d1
     refine st 6 [] (k_ite H (fun c65 H => ?_) (fun c65 H => ?_))
     ·obtain ⟨c66, H⟩ := guard_pos H
      refine st 10 [true] (k_val (elemPtr a52 (x56.toNat * 1)) (pI (e := 5) (ik := .i64) (hs.sO d1) c66 c65) ?_)
      refine k_op (lC ((hs.sO d1).cell1 c66 c65) ?_)
      refine st 1 [] (k_val (elemPtr a52 (x56.toNat * 1)) (pI (e := 5) (ik := .i64) (hs.sO d1) c66 c65) ?_)
      obtain ⟨y68, g67, q69⟩ := (hs.sO d1).toSl.seg c66 c65
      obtain rfl := rep_int q69
      replace hs := (hs.f d1)
      refine k_op (sE hs 0 [.int .u8 (bXor .u8 (at_ x51 x56) 255)] (bXor .u8 (at_ x51 x56) 255) c66 c65 g67 (ones_of rfl) rfl ?_)
      intro h hs
      refine st 7 [] ?_
      exact k_endL ⟨k, Nat.lt_succ_self _, (x51.set x56.toNat (bXor .u8 (at_ x51 x56) 255)), (w64 (x56 + 1)), a52, p53, x51.length, I, H, ⟨by kernel_rfl, by kernel_rfl, by kernel_rfl, by kernel_rfl, by kernel_rfl, trivial⟩, hs.pk (.c d1 (.c d0 (.c d0 (.c d0 (.c d0 (.c d0 (.c d0 (.c d0 (.c d0 .n)))))))))⟩
     ·refine st 2 [false] ?_
      refine k_out rfl ?_
      obtain rfl := Option.some.inj H
      exact xE ⟨x51, a52, p53, x51.length, I, rfl, ⟨by kernel_rfl, by kernel_rfl, by kernel_rfl, by kernel_rfl, trivial⟩, hs.pk (.c d0 (.c d0 (.c d0 (.c d0 (.c d0 (.c d0 (.c d0 (.c d0 (.c d0 .n)))))))))⟩
   ·rintro ρ h ⟨x58, a59, p60, n61, I, rfl, hf, hs⟩
    have H := HR63
    try dsimp only at H
    refine k_fits _ hf ?_ rfl
    obtain rfl := hs.nO d1
    obtain ⟨hk, bk⟩ := (hs.f d7).call tk1 (.c (qK d5) (.c (xK d6) .n))
    refine st 5 [] (k_call H (fun _ m => bytes_Cursor_Take.calls m hk) ?_)
    rintro t70 _ h H ⟨I, _, ⟨a71, p72, n73, a75, p76, n77, v79, rfl, rfl⟩, hk⟩
    replace hs := bk hk ct4 rfl
    obtain rfl := hs.nO d0
    obtain rfl := hs.nR d2
    refine st 8 [] ?_
    obtain ⟨s87, m94, HR93⟩ := bind_some H
    refine k_loop 2 (fun k' ρ h => ∃ (x81 : List Int) (x86 : Int) (a82 : Option Addr) (p83 : Nat) (n84 : Nat) (I : Gh), shutterlaw06_BytesKeeps.l2.m K k' x81 x86 = some s87 ∧ Fits [(0, .slice a21 x0.length p22), (3, .slice a59 x58.length p60), (4, .pointer (some ⟨b36, 0, none⟩)), (7, .slice a82 n84 p83), (8, .int .i64 x86)] ρ ∧ St E [rR (tInt .u8) .b a21 p22 x0.length x0, rO (tInt .u8) .i a59 p60 x58.length x58, rO (tInt .u8) .i a82 p83 n84 x81, rR (tInt .u8) .i a37 p38 t35.b'.length t35.b', rE .i v41 t35.err', rB b36 [.slice a37 t35.b'.length p38, .int .i64 t35.at', v41] 54, rG] I h) (fun ρ h => ∃ (x88 : List Int) (a89 : Option Addr) (p90 : Nat) (n91 : Nat) (I : Gh), x88 = s87 ∧ Fits [(0, .slice a21 x0.length p22), (3, .slice a59 x58.length p60), (4, .pointer (some ⟨b36, 0, none⟩)), (7, .slice a89 n91 p90)] ρ ∧ St E [rR (tInt .u8) .b a21 p22 x0.length x0, rO (tInt .u8) .i a59 p60 x58.length x58, rO (tInt .u8) .i a89 p90 n91 x88, rR (tInt .u8) .i a37 p38 t35.b'.length t35.b', rE .i v41 t35.err', rB b36 [.slice a37 t35.b'.length p38, .int .i64 t35.at', v41] 54, rG] I h) K ⟨t70.1, 0, a71, p72, t70.1.length, I, m94, ⟨by kernel_rfl, by kernel_rfl, by kernel_rfl, by kernel_rfl, by kernel_rfl, trivial⟩, hs.pk (.c d4 (.c d4 (.c d0 (.c d3 (.c d3 (.c d3 (.c d5 .n)))))))⟩ ?_ rfl ?_
    ·clear HR93 m94 H
     rintro k' ρ h ⟨x81, x86, a82, p83, n84, I, H, hf, hs⟩
     cases k' with
     | zero => cases H
     | succ k =>
      rw [shutterlaw06_BytesKeeps.l2.m] at H
      refine k_fits _ hf ?_ rfl
      obtain rfl := hs.nO d2
      refine st 6 [] (k_ite H (fun c95 H => ?_) (fun c95 H => ?_))
      ·obtain ⟨c96, H⟩ := guard_pos H
       refine st 10 [true] (k_val (elemPtr a82 (x86.toNat * 1)) (pI (e := 5) (ik := .i64) (hs.sO d2) c96 c95) ?_)
       refine k_op (lC ((hs.sO d2).cell1 c96 c95) ?_)
       refine st 1 [] (k_val (elemPtr a82 (x86.toNat * 1)) (pI (e := 5) (ik := .i64) (hs.sO d2) c96 c95) ?_)
       obtain ⟨y98, g97, q99⟩ := (hs.sO d2).toSl.seg c96 c95
       obtain rfl := rep_int q99
       replace hs := (hs.f d2)
       refine k_op (sE hs 0 [.int .u8 (bXor .u8 (at_ x81 x86) 255)] (bXor .u8 (at_ x81 x86) 255) c96 c95 g97 (ones_of rfl) rfl ?_)
       intro h hs
       refine st 7 [] ?_
       exact k_endL ⟨k, Nat.lt_succ_self _, (x81.set x86.toNat (bXor .u8 (at_ x81 x86) 255)), (w64 (x86 + 1)), a82, p83, x81.length, I, H, ⟨by kernel_rfl, by kernel_rfl, by kernel_rfl, by kernel_rfl, by kernel_rfl, trivial⟩, hs.pk (.c d1 (.c d1 (.c d0 (.c d0 (.c d0 (.c d0 (.c d0 .n)))))))⟩
      ·refine st 2 [false] ?_
       refine k_out rfl ?_
       obtain rfl := Option.some.inj H
       exact xE ⟨x81, a82, p83, x81.length, I, rfl, ⟨by kernel_rfl, by kernel_rfl, by kernel_rfl, by kernel_rfl, trivial⟩, hs.pk (.c d0 (.c d0 (.c d0 (.c d0 (.c d0 (.c d0 (.c d0 .n)))))))⟩
    ·rintro ρ h ⟨x88, a89, p90, n91, I, rfl, hf, hs⟩
     have H := HR93
     try dsimp only at H
     refine k_fits _ hf ?_ rfl
     obtain rfl := hs.nO d2
     obtain ⟨hk, bk⟩ := (hs.f d5).call tk1 (.c (qK d3) (.c (xK d4) .n))
     refine st 5 [] (k_call H (fun _ m => bytes_Cursor_Take.calls m hk) ?_)
     rintro t100 _ h H ⟨I, _, ⟨a101, p102, n103, a105, p106, n107, v109, rfl, rfl⟩, hk⟩
     replace hs := bk hk ct4 rfl
     obtain rfl := hs.nO d0
     obtain rfl := hs.nR d2
     refine st 1 [] (k_call H (fun _ m => shutterref01_Same.calls m ((hs.sO d0)).up1 (hs.sR d4)) ?_)
     rintro t111 _ _ H ⟨rfl, rfl⟩
     cases t111
     ·rw [cond_false] at H
      refine st 7 [] ?_
      refine k_retQ ?_
      obtain rfl := Option.some.inj H
      exact ⟨_, by kernel_rfl, I, _, ⟨rfl, rfl⟩, hs.pk .n⟩
     ·rw [cond_true] at H
      refine st 3 [] (k_call H (fun _ m => shutterref01_Same.calls m (hs.sO d6) (hs.sO d5)) ?_)
      rintro t112 _ _ H ⟨rfl, rfl⟩
      refine st 3 [] ?_
      refine k_retQ ?_
      obtain rfl := Option.some.inj H
      exact ⟨_, by kernel_rfl, I, _, ⟨rfl, rfl⟩, hs.pk .n⟩

/-! shutter/mac.Equal -/
def mac_Equal.l1.m (K : Nat) (x0 : (List Int)) (x1 : (List Int)) : Nat → Int → Int → Option (Int)
  | 0, _, _ => none
  | k + 1, x32, x33 => (letJ (α := Bool → Option (Int)) (fun (x39 : Bool) => (bif x39 then (if 0 ≤ x33 then (if x33 < (x0.length : Int) then (if x33 < (x1.length : Int) then (mac_Equal.l1.m K x0 x1 k (bOr .u8 x32 (bXor .u8 (at_ x0 x33) (at_ x1 x33))) (w64 (x33 + 1))) else none) else none) else none) else (some (x32)))) fun (j40 : Bool → Option (Int)) => (if x33 < (x0.length : Int) then (j40 true) else (j40 false)))
def mac_Equal.m (K : Nat) (x0 : (List Int)) (x1 : (List Int)) : Option Bool :=
  (if (x0.length : Int) = (x1.length : Int) then ((mac_Equal.l1.m K x0 x1 K 0 0).bind fun x35 => (some (x35 == 0))) else (some false))

theorem mac_Equal.calls {G : Gh} {K : Nat} {x0 : (List Int)} {x1 : (List Int)} {a21 : Option Addr} {p22 : Nat} {n23 : Nat} {a25 : Option Addr} {p26 : Nat} {n27 : Nat} {h : Heap} {r : Bool} (H : mac_Equal.m K x0 x1 = some r)  (s29 : Sn (tInt .u8) G h a21 p22 n23 x0) (s30 : Sn (tInt .u8) G h a25 p26 n27 x1) :
    Ret Tryd.prog 34 #[.slice a21 n23 p22, .slice a25 n27 p26] h (fun v h' => .bool r = v ∧ h' = h) := by
 unfold mac_Equal.m at H
 obtain rfl := s29.len.symm
 obtain rfl := s30.len.symm
 refine fn_of (args := [.slice a21 x0.length p22, .slice a25 x1.length p26]) (rs := [.tmp 4]) (N := 31) Tryd.func34 rfl rfl rfl rfl ?_
 refine st 11 [] (k_iteN H (fun c31 H => ?_) (fun c31 H => ?_))
 ·refine st 15 [false] ?_
  obtain ⟨s34, m37, HR36⟩ := bind_some H
  refine k_loop 0 (fun k' ρ h1 => ∃ (x32 : Int) (x33 : Int), mac_Equal.l1.m K x0 x1 k' x32 x33 = some s34 ∧ Fits [(1, .slice a25 x1.length p26), (5, .int .u8 x32), (13, .slice a21 x0.length p22), (14, .int .i64 (x0.length : Int)), (15, .int .i64 x33)] ρ ∧ h = h1) (fun ρ h1 => ∃ (x35 : Int), x35 = s34 ∧ Fits [(5, .int .u8 x35)] ρ ∧ h = h1) K ⟨0, 0, m37, ⟨by kernel_rfl, by kernel_rfl, by kernel_rfl, by kernel_rfl, by kernel_rfl, trivial⟩, rfl⟩ ?_ rfl ?_
  ·clear HR36 m37 H
   rintro k' ρ h1 ⟨x32, x33, H, hf, rfl⟩
   cases k' with
   | zero => cases H
   | succ k =>
    rw [mac_Equal.l1.m] at H
    refine k_fits _ hf ?_ rfl
    refine st 1 [] ?_
    obtain ⟨j40, e44, H⟩ := letJ_some H
    refine k_join (fun ρ h1 => ∃ (x39 : Bool), j40 x39 = some s34 ∧ Fits [(1, .slice a25 x1.length p26), (5, .int .u8 x32), (13, .slice a21 x0.length p22), (14, .int .i64 (x0.length : Int)), (15, .int .i64 x33), (16, .bool x39)] ρ ∧ h = h1) ?_ ?_
    ·refine st 1 [] (k_ite H (fun c38 H => ?_) (fun c38 H => ?_))
     ·refine st 1 [] ?_
      exact k_end ⟨true, H, ⟨by kernel_rfl, by kernel_rfl, by kernel_rfl, by kernel_rfl, by kernel_rfl, by kernel_rfl, trivial⟩, rfl⟩
     ·refine st 1 [] ?_
      exact k_end ⟨false, H, ⟨by kernel_rfl, by kernel_rfl, by kernel_rfl, by kernel_rfl, by kernel_rfl, by kernel_rfl, trivial⟩, rfl⟩
    ·clear H
     rintro ρ h1 ⟨x39, H, hf, rfl⟩
     refine k_fits _ hf ?_ rfl
     subst e44
     try dsimp only at H
     cases x39
     ·rw [cond_false] at H
      refine st 2 [false] ?_
      refine k_out rfl ?_
      obtain rfl := Option.some.inj H
      exact xE ⟨x32, rfl, ⟨by kernel_rfl, trivial⟩, rfl⟩
     ·rw [cond_true] at H
      obtain ⟨c41, H⟩ := guard_pos H
      obtain ⟨c42, H⟩ := guard_pos H
      refine st 8 [true] (k_val (elemPtr a21 (x33.toNat * 1)) (pI (e := 5) (ik := .i64) s29 c41 c42) ?_)
      refine k_op (lC (s29.cell1 c41 c42) ?_)
      obtain ⟨c43, H⟩ := guard_pos H
      refine st 8 [] (k_val (elemPtr a25 (x33.toNat * 1)) (pI (e := 5) (ik := .i64) s30 c41 c43) ?_)
      refine k_op (lC (s30.cell1 c41 c43) ?_)
      refine st 9 [] ?_
      exact k_endL ⟨k, Nat.lt_succ_self _, (bOr .u8 x32 (bXor .u8 (at_ x0 x33) (at_ x1 x33))), (w64 (x33 + 1)), H, ⟨by kernel_rfl, by kernel_rfl, by kernel_rfl, by kernel_rfl, by kernel_rfl, trivial⟩, rfl⟩
  ·rintro ρ h1 ⟨x35, rfl, hf, rfl⟩
   have H := HR36
   try dsimp only at H
   refine k_fits _ hf ?_ rfl
   refine st 6 [] ?_
   refine k_retQ ?_
   obtain rfl := Option.some.inj H
   exact ⟨_, by kernel_rfl, rfl, rfl⟩
 ·refine st 6 [true] ?_
  refine k_retQ ?_
  obtain rfl := Option.some.inj H
  exact ⟨_, by kernel_rfl, rfl, rfl⟩

/-! shutter/frame.sided -/
def frame_sided.m (x0 : Int) : Option Bool :=
  (if x0 = 0 then (some true) else (some (x0 == 1)))

theorem frame_sided.calls {x0 : Int} {h : Heap} {r : Bool} (H : frame_sided.m x0 = some r)   :
    Ret Tryd.prog 29 #[.int .i64 x0] h (fun v h' => .bool r = v ∧ h' = h) := by
 unfold frame_sided.m at H
 refine fn_of (args := [.int .i64 x0]) (rs := [.tmp 2]) (N := 9) Tryd.func29 rfl rfl rfl rfl ?_
 refine st 7 [] (k_ite H (fun c21 H => ?_) (fun c21 H => ?_))
 ·refine st 6 [] ?_
  refine k_retQ ?_
  obtain rfl := Option.some.inj H
  exact ⟨_, by kernel_rfl, rfl, rfl⟩
 ·refine st 6 [] ?_
  refine k_retQ ?_
  obtain rfl := Option.some.inj H
  exact ⟨_, by kernel_rfl, rfl, rfl⟩

/-! shutter/hash.digits -/
def hash_digits.l1.m (K : Nat) (x0 : ByteArray) (x1 : Int) : Nat → Int → Int → Option (Int)
  | 0, _, _ => none
  | k + 1, x27, x28 => (letJ (α := Bool → Option (Int)) (fun (x34 : Bool) => (bif x34 then (if 0 ≤ x28 then (if x28 < ((strL (bsub x0 (w64 (8 * x1)) (w64 ((w64 (8 * x1)) + 8)))).length : Int) then (if (at_ (strL (bsub x0 (w64 (8 * x1)) (w64 ((w64 (8 * x1)) + 8)))) x28) ≥ 97 then (hash_digits.l1.m K x0 x1 k (bOr .u32 (shl .u32 x27 4) (IntKind.u32.wrap ((IntKind.u8.wrap ((at_ (strL (bsub x0 (w64 (8 * x1)) (w64 ((w64 (8 * x1)) + 8)))) x28) - 87))))) (w64 (x28 + 1))) else (hash_digits.l1.m K x0 x1 k (bOr .u32 (shl .u32 x27 4) (IntKind.u32.wrap ((IntKind.u8.wrap ((at_ (strL (bsub x0 (w64 (8 * x1)) (w64 ((w64 (8 * x1)) + 8)))) x28) - 48))))) (w64 (x28 + 1)))) else none) else none) else (some (x27)))) fun (j35 : Bool → Option (Int)) => (if x28 < ((strL (bsub x0 (w64 (8 * x1)) (w64 ((w64 (8 * x1)) + 8)))).length : Int) then (j35 true) else (j35 false)))
def hash_digits.m (K : Nat) (x0 : ByteArray) (x1 : Int) : Option Int :=
  (if 0 ≤ (w64 (8 * x1)) then (if (w64 (8 * x1)) ≤ (w64 ((w64 (8 * x1)) + 8)) then (if (w64 ((w64 (8 * x1)) + 8)) ≤ (x0.size : Int) then ((hash_digits.l1.m K x0 x1 K 0 0).bind fun x30 => (some x30)) else none) else none) else none)

theorem hash_digits.calls {B I : Gh} {h : Heap} {K : Nat} {x0 : ByteArray} {x1 : Int} {r : Int} (H : hash_digits.m K x0 x1 = some r)  :
    Fc Tryd.prog 60 #[.string x0, .int .i64 x1] [] B I h (fun v L => v = .int .u32 r ∧ L = []) := by
 refine fc_of fun E hs => ?_
 unfold hash_digits.m at H
 refine fn_of (args := [.string x0, .int .i64 x1]) (rs := [.tmp 4]) (N := 35) Tryd.func60 rfl rfl rfl rfl ?_
 obtain ⟨c21, H⟩ := guard_pos H
 obtain ⟨c22, H⟩ := guard_pos H
 obtain ⟨c23, H⟩ := guard_pos H
 refine st 17 [] (k_val (.string (bsub x0 (w64 (8 * x1)) (w64 ((w64 (8 * x1)) + 8)))) (pr_sliceStr_lh (s := x0) (k1 := .i64) (k2 := .i64) (by kernel_rfl) (by kernel_rfl) (by kernel_rfl) (by kernel_rfl) c21 c22 c23) ?_)
 refine k_op (nZ (e := 5) (s := (bsub x0 (w64 (8 * x1)) (w64 ((w64 (8 * x1)) + 8)))) hs ?_)
 intro I b24 p25 h hs
 refine st 4 [] ?_
 obtain ⟨s29, m32, HR31⟩ := bind_some H
 refine k_loop 0 (fun k' ρ h => ∃ (x27 : Int) (x28 : Int) (I : Gh), hash_digits.l1.m K x0 x1 k' x27 x28 = some s29 ∧ Fits [(5, .int .u32 x27), (15, .slice (some ⟨b24, 0, none⟩) ((strL (bsub x0 (w64 (8 * x1)) (w64 ((w64 (8 * x1)) + 8)))).length) p25), (16, .int .i64 ((strL (bsub x0 (w64 (8 * x1)) (w64 ((w64 (8 * x1)) + 8)))).length : Int)), (17, .int .i64 x28)] ρ ∧ St E [rR (tInt .u8) .i (some ⟨b24, 0, none⟩) p25 ((strL (bsub x0 (w64 (8 * x1)) (w64 ((w64 (8 * x1)) + 8)))).length) (strL (bsub x0 (w64 (8 * x1)) (w64 ((w64 (8 * x1)) + 8))))] I h) (fun ρ h => ∃ (x30 : Int) (I : Gh), x30 = s29 ∧ Fits [(5, .int .u32 x30)] ρ ∧ St E [] I h) K ⟨0, 0, I, m32, ⟨by kernel_rfl, by kernel_rfl, by kernel_rfl, by kernel_rfl, trivial⟩, hs.pk (.c d0 .n)⟩ ?_ rfl ?_
 ·clear HR31 m32 H
  rintro k' ρ h ⟨x27, x28, I, H, hf, hs⟩
  cases k' with
  | zero => cases H
  | succ k =>
   rw [hash_digits.l1.m] at H
   refine k_fits _ hf ?_ rfl
   refine st 1 [] ?_
   obtain ⟨j35, e39, H⟩ := letJ_some H
   refine k_join (fun ρ h => ∃ (x34 : Bool) (I : Gh), j35 x34 = some s29 ∧ Fits [(5, .int .u32 x27), (15, .slice (some ⟨b24, 0, none⟩) ((strL (bsub x0 (w64 (8 * x1)) (w64 ((w64 (8 * x1)) + 8)))).length) p25), (16, .int .i64 ((strL (bsub x0 (w64 (8 * x1)) (w64 ((w64 (8 * x1)) + 8)))).length : Int)), (17, .int .i64 x28), (18, .bool x34)] ρ ∧ St E [rR (tInt .u8) .i (some ⟨b24, 0, none⟩) p25 ((strL (bsub x0 (w64 (8 * x1)) (w64 ((w64 (8 * x1)) + 8)))).length) (strL (bsub x0 (w64 (8 * x1)) (w64 ((w64 (8 * x1)) + 8))))] I h) ?_ ?_
   ·refine st 1 [] (k_ite H (fun c33 H => ?_) (fun c33 H => ?_))
    ·refine st 1 [] ?_
     exact k_end ⟨true, I, H, ⟨by kernel_rfl, by kernel_rfl, by kernel_rfl, by kernel_rfl, by kernel_rfl, trivial⟩, hs.pk (.c d0 .n)⟩
    ·refine st 1 [] ?_
     exact k_end ⟨false, I, H, ⟨by kernel_rfl, by kernel_rfl, by kernel_rfl, by kernel_rfl, by kernel_rfl, trivial⟩, hs.pk (.c d0 .n)⟩
   ·clear H
    rintro ρ h ⟨x34, I, H, hf, hs⟩
    refine k_fits _ hf ?_ rfl
    subst e39
    try dsimp only at H
    cases x34
    ·rw [cond_false] at H
     refine st 2 [false] ?_
     refine k_out rfl ?_
     obtain rfl := Option.some.inj H
     exact xE ⟨x27, I, rfl, ⟨by kernel_rfl, trivial⟩, hs.pk .n⟩
    ·rw [cond_true] at H
     obtain ⟨c36, H⟩ := guard_pos H
     obtain ⟨c37, H⟩ := guard_pos H
     refine st 7 [true] (k_val (elemPtr (some ⟨b24, 0, none⟩) (x28.toNat * 1)) (pI (e := 5) (ik := .i64) (hs.sR d0) c36 c37) ?_)
     refine k_op (lC ((hs.sR d0).cell1 c36 c37) ?_)
     refine st 7 [] (k_ite H (fun c38 H => ?_) (fun c38 H => ?_))
     ·refine st 22 [true] ?_
      exact k_endL ⟨k, Nat.lt_succ_self _, (bOr .u32 (shl .u32 x27 4) (IntKind.u32.wrap ((IntKind.u8.wrap ((at_ (strL (bsub x0 (w64 (8 * x1)) (w64 ((w64 (8 * x1)) + 8)))) x28) - 87))))), (w64 (x28 + 1)), I, H, ⟨by kernel_rfl, by kernel_rfl, by kernel_rfl, by kernel_rfl, trivial⟩, hs.pk (.c d0 .n)⟩
     ·refine st 22 [false] ?_
      exact k_endL ⟨k, Nat.lt_succ_self _, (bOr .u32 (shl .u32 x27 4) (IntKind.u32.wrap ((IntKind.u8.wrap ((at_ (strL (bsub x0 (w64 (8 * x1)) (w64 ((w64 (8 * x1)) + 8)))) x28) - 48))))), (w64 (x28 + 1)), I, H, ⟨by kernel_rfl, by kernel_rfl, by kernel_rfl, by kernel_rfl, trivial⟩, hs.pk (.c d0 .n)⟩
 ·rintro ρ h ⟨x30, I, rfl, hf, hs⟩
  have H := HR31
  try dsimp only at H
  refine k_fits _ hf ?_ rfl
  refine st 5 [] ?_
  refine k_retQ ?_
  obtain rfl := Option.some.inj H
  exact ⟨_, by kernel_rfl, I, _, ⟨rfl, rfl⟩, hs.pk .n⟩

/-! shutter/hash.New -/
def hash_New.l1.m (K : Nat) : Nat → Int → Int → Int → Int → Int → Int → Int → Int → Int → (List Int) → Int → Option (Int × Int × Int × Int × Int × Int × Int × Int × (List Int) × Int)
  | 0, _, _, _, _, _, _, _, _, _, _, _ => none
  | k + 1, x22, x23, x24, x25, x26, x27, x28, x29, x30, x31, x36 => (letJ (α := Bool → Option (Int × Int × Int × Int × Int × Int × Int × Int × (List Int) × Int)) (fun (x55 : Bool) => (bif x55 then ((hash_digits.m K (⟨#[54, 97, 48, 57, 101, 54, 54, 55, 98, 98, 54, 55, 97, 101, 56, 53, 51, 99, 54, 101, 102, 51, 55, 50, 97, 53, 52, 102, 102, 53, 51, 97, 53, 49, 48, 101, 53, 50, 55, 102, 57, 98, 48, 53, 54, 56, 56, 99, 49, 102, 56, 51, 100, 57, 97, 98, 53, 98, 101, 48, 99, 100, 49, 57]⟩ : ByteArray) x22).bind fun t57 => (if 0 ≤ x22 then (if x22 < 8 then (hash_New.l1.m K k (w64 (x22 + 1)) (at_ ([x23, x24, x25, x26, x27, x28, x29, x30].set x22.toNat t57) 0) (at_ ([x23, x24, x25, x26, x27, x28, x29, x30].set x22.toNat t57) 1) (at_ ([x23, x24, x25, x26, x27, x28, x29, x30].set x22.toNat t57) 2) (at_ ([x23, x24, x25, x26, x27, x28, x29, x30].set x22.toNat t57) 3) (at_ ([x23, x24, x25, x26, x27, x28, x29, x30].set x22.toNat t57) 4) (at_ ([x23, x24, x25, x26, x27, x28, x29, x30].set x22.toNat t57) 5) (at_ ([x23, x24, x25, x26, x27, x28, x29, x30].set x22.toNat t57) 6) (at_ ([x23, x24, x25, x26, x27, x28, x29, x30].set x22.toNat t57) 7) x31 x36) else none) else none)) else (some ((x23, x24, x25, x26, x27, x28, x29, x30, x31, x36))))) fun (j56 : Bool → Option (Int × Int × Int × Int × Int × Int × Int × Int × (List Int) × Int)) => (if x22 < 8 then (j56 true) else (j56 false)))
def hash_New.m (K : Nat)  : Option hash_Sum :=
  ((hash_New.l1.m K K 0 0 0 0 0 0 0 0 0 [] 0).bind fun (x38, x39, x40, x41, x42, x43, x44, x45, x46, x51) => (some (⟨[x38, x39, x40, x41, x42, x43, x44, x45], x46, x51⟩ : hash_Sum)))

theorem hash_New.calls {B I : Gh} {h : Heap} {K : Nat} {r : hash_Sum} (H : hash_New.m K = some r)  :
    Fc Tryd.prog 52 #[] [] B I h (fun v L => ∃ (b61 : Nat) (a63 : Option Addr) (p64 : Nat) (n65 : Nat), v = .pointer (some ⟨b61, 0, none⟩) ∧ L = [rB b61 [.int .u32 (at_ r.h' 0), .int .u32 (at_ r.h' 1), .int .u32 (at_ r.h' 2), .int .u32 (at_ r.h' 3), .int .u32 (at_ r.h' 4), .int .u32 (at_ r.h' 5), .int .u32 (at_ r.h' 6), .int .u32 (at_ r.h' 7), .slice a63 n65 p64, .int .u64 r.n'] 117, rO (tInt .u8) .i a63 p64 n65 r.rest'] ∧ List.length r.h' = 8) := by
 refine fc_of fun E hs => ?_
 unfold hash_New.m at H
 refine fn_of (args := []) (rs := [.tmp 0]) (N := 17) Tryd.func52 rfl rfl rfl rfl ?_
 refine st 7 [] (k_op (nB hs [.int .u32 0, .int .u32 0, .int .u32 0, .int .u32 0, .int .u32 0, .int .u32 0, .int .u32 0, .int .u32 0, .slice none 0 0, .int .u64 0] ?_))
 intro b21 h hs
 refine st 8 [] ?_
 obtain ⟨s37, m53, HR52⟩ := bind_some H
 refine k_loop 0 (fun k' ρ h => ∃ (x22 : Int) (x23 : Int) (x24 : Int) (x25 : Int) (x26 : Int) (x27 : Int) (x28 : Int) (x29 : Int) (x30 : Int) (x31 : List Int) (x36 : Int) (a32 : Option Addr) (p33 : Nat) (n34 : Nat) (I : Gh), hash_New.l1.m K k' x22 x23 x24 x25 x26 x27 x28 x29 x30 x31 x36 = some s37 ∧ Fits [(1, .pointer (some ⟨b21, 0, none⟩)), (5, .int .i64 x22)] ρ ∧ St E [rO (tInt .u8) .i a32 p33 n34 x31, rB b21 [.int .u32 x23, .int .u32 x24, .int .u32 x25, .int .u32 x26, .int .u32 x27, .int .u32 x28, .int .u32 x29, .int .u32 x30, .slice a32 n34 p33, .int .u64 x36] 117] I h) (fun ρ h => ∃ (x38 : Int) (x39 : Int) (x40 : Int) (x41 : Int) (x42 : Int) (x43 : Int) (x44 : Int) (x45 : Int) (x46 : List Int) (x51 : Int) (a47 : Option Addr) (p48 : Nat) (n49 : Nat) (I : Gh), (x38, x39, x40, x41, x42, x43, x44, x45, x46, x51) = s37 ∧ Fits [(1, .pointer (some ⟨b21, 0, none⟩))] ρ ∧ St E [rO (tInt .u8) .i a47 p48 n49 x46, rB b21 [.int .u32 x38, .int .u32 x39, .int .u32 x40, .int .u32 x41, .int .u32 x42, .int .u32 x43, .int .u32 x44, .int .u32 x45, .slice a47 n49 p48, .int .u64 x51] 117] I h) K ⟨0, 0, 0, 0, 0, 0, 0, 0, 0, [], 0, none, 0, 0, I, m53, ⟨by kernel_rfl, by kernel_rfl, trivial⟩, hs.pk (.f imON (.c d0 .n))⟩ ?_ rfl ?_
 ·clear HR52 m53 H
  rintro k' ρ h ⟨x22, x23, x24, x25, x26, x27, x28, x29, x30, x31, x36, a32, p33, n34, I, H, hf, hs⟩
  cases k' with
  | zero => cases H
  | succ k =>
   rw [hash_New.l1.m] at H
   refine k_fits _ hf ?_ rfl
   obtain rfl := hs.nO d0
   refine st 1 [] ?_
   obtain ⟨j56, e60, H⟩ := letJ_some H
   refine k_join (fun ρ h => ∃ (x55 : Bool) (I : Gh), j56 x55 = some s37 ∧ Fits [(1, .pointer (some ⟨b21, 0, none⟩)), (5, .int .i64 x22), (6, .bool x55)] ρ ∧ St E [rO (tInt .u8) .i a32 p33 x31.length x31, rB b21 [.int .u32 x23, .int .u32 x24, .int .u32 x25, .int .u32 x26, .int .u32 x27, .int .u32 x28, .int .u32 x29, .int .u32 x30, .slice a32 x31.length p33, .int .u64 x36] 117] I h) ?_ ?_
   ·refine st 1 [] (k_ite H (fun c54 H => ?_) (fun c54 H => ?_))
    ·refine st 1 [] ?_
     exact k_end ⟨true, I, H, ⟨by kernel_rfl, by kernel_rfl, by kernel_rfl, trivial⟩, hs.pk (.c d0 (.c d0 .n))⟩
    ·refine st 1 [] ?_
     exact k_end ⟨false, I, H, ⟨by kernel_rfl, by kernel_rfl, by kernel_rfl, trivial⟩, hs.pk (.c d0 (.c d0 .n))⟩
   ·clear H
    rintro ρ h ⟨x55, I, H, hf, hs⟩
    refine k_fits _ hf ?_ rfl
    subst e60
    try dsimp only at H
    cases x55
    ·rw [cond_false] at H
     refine st 2 [false] ?_
     refine k_out rfl ?_
     obtain rfl := Option.some.inj H
     exact xE ⟨x23, x24, x25, x26, x27, x28, x29, x30, x31, x36, a32, p33, x31.length, I, rfl, ⟨by kernel_rfl, trivial⟩, hs.pk (.c d0 (.c d0 .n))⟩
    ·rw [cond_true] at H
     refine st 10 [true] ?_
     obtain ⟨hs0, bk0⟩ := hs.call tk0 .n
     have hs := hs0
     refine k_regD hs0 7 ?_
     refine aRun [0, 1, 2, 4, 5] 3 hs.keep ?_
     obtain ⟨hk, bk⟩ := hs.call tk0 .n
     refine aO1 3 rfl (o_call H (fun _ m => hash_digits.calls m hk) ?_)
     rintro t57 _ h H ⟨I, _, ⟨rfl, rfl⟩, hk⟩
     replace hs := bk hk ct0 rfl
     refine ⟨hs.keep, ?_⟩
     obtain ⟨c58, H⟩ := guard_pos H
     obtain ⟨c59, H⟩ := guard_pos H
     refine aP 6 (elemPtr (some ⟨b21, 0, none⟩) (x22.toNat * 1)) rfl (pr_indexArrO (e := 114) (kk := .i64) (n := 8) (by kernel_rfl) (by kernel_rfl) (by kernel_rfl) (by kernel_rfl) c58 c59) hs.keep ?_
     replace hs := bk0 hs ct0 rfl
     refine aOL 7 rfl (sAO (ik := .u32) (hs.f d1) [] [x23, x24, x25, x26, x27, x28, x29, x30] [.slice a32 x31.length p33, .int .u64 x36] t57 (by kernel_rfl) rfl c58 c59 ?_)
     intro h hs
     rw [arr_expand (Value.int .u32) (len_set rfl)] at hs
     replace hs : St _ (rB _ [.int .u32 (at_ ([x23, x24, x25, x26, x27, x28, x29, x30].set x22.toNat t57) 0), .int .u32 (at_ ([x23, x24, x25, x26, x27, x28, x29, x30].set x22.toNat t57) 1), .int .u32 (at_ ([x23, x24, x25, x26, x27, x28, x29, x30].set x22.toNat t57) 2), .int .u32 (at_ ([x23, x24, x25, x26, x27, x28, x29, x30].set x22.toNat t57) 3), .int .u32 (at_ ([x23, x24, x25, x26, x27, x28, x29, x30].set x22.toNat t57) 4), .int .u32 (at_ ([x23, x24, x25, x26, x27, x28, x29, x30].set x22.toNat t57) 5), .int .u32 (at_ ([x23, x24, x25, x26, x27, x28, x29, x30].set x22.toNat t57) 6), .int .u32 (at_ ([x23, x24, x25, x26, x27, x28, x29, x30].set x22.toNat t57) 7), .slice a32 x31.length p33, .int .u64 x36] _ :: _) _ _ := hs
     refine aEnd ?_
     refine st 5 [] ?_
     exact k_endL ⟨k, Nat.lt_succ_self _, (w64 (x22 + 1)), (at_ ([x23, x24, x25, x26, x27, x28, x29, x30].set x22.toNat t57) 0), (at_ ([x23, x24, x25, x26, x27, x28, x29, x30].set x22.toNat t57) 1), (at_ ([x23, x24, x25, x26, x27, x28, x29, x30].set x22.toNat t57) 2), (at_ ([x23, x24, x25, x26, x27, x28, x29, x30].set x22.toNat t57) 3), (at_ ([x23, x24, x25, x26, x27, x28, x29, x30].set x22.toNat t57) 4), (at_ ([x23, x24, x25, x26, x27, x28, x29, x30].set x22.toNat t57) 5), (at_ ([x23, x24, x25, x26, x27, x28, x29, x30].set x22.toNat t57) 6), (at_ ([x23, x24, x25, x26, x27, x28, x29, x30].set x22.toNat t57) 7), x31, x36, a32, p33, x31.length, I, H, ⟨by kernel_rfl, by kernel_rfl, trivial⟩, hs.pk (.c d1 (.c d0 .n))⟩
 ·rintro ρ h ⟨x38, x39, x40, x41, x42, x43, x44, x45, x46, x51, a47, p48, n49, I, rfl, hf, hs⟩
  have H := HR52
  try dsimp only at H
  refine k_fits _ hf ?_ rfl
  obtain rfl := hs.nO d0
  refine st 5 [] ?_
  refine k_retQ ?_
  obtain rfl := Option.some.inj H
  exact ⟨_, by kernel_rfl, I, _, ⟨b21, a47, p48, x46.length, rfl, rfl, rfl⟩, hs.pk (.c d1 (.c d0 .n))⟩

/-! shutter/hash.turn -/
def hash_turn.m (x0 : Int) (x1 : Int) : Option Int :=
  (if 0 ≤ x1 then (if 0 ≤ (w64 (32 - x1)) then (some (bOr .u32 (shr .u32 x0 x1) (shl .u32 x0 (w64 (32 - x1))))) else none) else none)

theorem hash_turn.calls {x0 : Int} {x1 : Int} {h : Heap} {r : Int} (H : hash_turn.m x0 x1 = some r)   :
    Ret Tryd.prog 66 #[.int .u32 x0, .int .i64 x1] h (fun v h' => .int .u32 r = v ∧ h' = h) := by
 unfold hash_turn.m at H
 refine fn_of (args := [.int .u32 x0, .int .i64 x1]) (rs := [.tmp 4]) (N := 13) Tryd.func66 rfl rfl rfl rfl ?_
 refine st 5 [] ?_
 refine k_regP 9 ?_
 obtain ⟨c21, H⟩ := guard_pos H
 refine aRun [0, 1] 7 Keep.refl ?_
 refine aP 2 (.int .u32 (shr .u32 x0 x1)) rfl (pr_shr (k := .u32) (yk := .i64) (a := x0) (b := x1) (by kernel_rfl) (by kernel_rfl) c21) Keep.refl ?_
 obtain ⟨c22, H⟩ := guard_pos H
 refine aRun [3, 4, 5] 3 Keep.refl ?_
 refine aP 6 (.int .u32 (shl .u32 x0 (w64 (32 - x1)))) rfl (pr_shl (k := .u32) (yk := .i64) (a := x0) (b := (w64 (32 - x1))) (by kernel_rfl) (by kernel_rfl) c22) Keep.refl ?_
 refine aRun [7, 8] 0 Keep.refl ?_
 refine aEnd ?_
 refine k_retQ ?_
 obtain rfl := Option.some.inj H
 exact ⟨_, by kernel_rfl, rfl, rfl⟩

/-! shutter/hash.words -/
def hash_words.l1.m (K : Nat) (x0 : (List Int)) : Nat → Int → (List Int) → Option ((List Int))
  | 0, _, _ => none
  | k + 1, x27, x29 => (letJ (α := Bool → Option ((List Int))) (fun (x36 : Bool) => (bif x36 then (letJ (α := Bool → Option ((List Int))) (fun (x39 : Bool) => (bif x39 then (if 0 ≤ (w64 (4 * x27)) then (if (w64 (4 * x27)) < (x0.length : Int) then (if 0 ≤ (w64 ((w64 (4 * x27)) + 1)) then (if (w64 ((w64 (4 * x27)) + 1)) < (x0.length : Int) then (if 0 ≤ (w64 ((w64 (4 * x27)) + 2)) then (if (w64 ((w64 (4 * x27)) + 2)) < (x0.length : Int) then (if 0 ≤ (w64 ((w64 (4 * x27)) + 3)) then (if (w64 ((w64 (4 * x27)) + 3)) < (x0.length : Int) then (if 0 ≤ x27 then (if x27 < 64 then (hash_words.l1.m K x0 k (w64 (x27 + 1)) (x29.set x27.toNat (bOr .u32 (bOr .u32 (bOr .u32 (shl .u32 (IntKind.u32.wrap ((at_ x0 (w64 (4 * x27))))) 24) (shl .u32 (IntKind.u32.wrap ((at_ x0 (w64 ((w64 (4 * x27)) + 1))))) 16)) (shl .u32 (IntKind.u32.wrap ((at_ x0 (w64 ((w64 (4 * x27)) + 2))))) 8)) (IntKind.u32.wrap ((at_ x0 (w64 ((w64 (4 * x27)) + 3)))))))) else none) else none) else none) else none) else none) else none) else none) else none) else none) else none) else (if 0 ≤ (w64 (x27 - 15)) then (if (w64 (x27 - 15)) < 64 then (if 0 ≤ (w64 (x27 - 2)) then (if (w64 (x27 - 2)) < 64 then ((hash_turn.m (at_ x29 (w64 (x27 - 15))) 7).bind fun t55 => ((hash_turn.m (at_ x29 (w64 (x27 - 15))) 18).bind fun t56 => ((hash_turn.m (at_ x29 (w64 (x27 - 2))) 17).bind fun t57 => ((hash_turn.m (at_ x29 (w64 (x27 - 2))) 19).bind fun t58 => (if 0 ≤ (w64 (x27 - 16)) then (if (w64 (x27 - 16)) < 64 then (if 0 ≤ (w64 (x27 - 7)) then (if (w64 (x27 - 7)) < 64 then (if 0 ≤ x27 then (if x27 < 64 then (hash_words.l1.m K x0 k (w64 (x27 + 1)) (x29.set x27.toNat (IntKind.u32.wrap ((IntKind.u32.wrap ((IntKind.u32.wrap ((at_ x29 (w64 (x27 - 16))) + (bXor .u32 (bXor .u32 t55 t56) (shr .u32 (at_ x29 (w64 (x27 - 15))) 3)))) + (at_ x29 (w64 (x27 - 7))))) + (bXor .u32 (bXor .u32 t57 t58) (shr .u32 (at_ x29 (w64 (x27 - 2))) 10)))))) else none) else none) else none) else none) else none) else none))))) else none) else none) else none) else none))) fun (j40 : Bool → Option ((List Int))) => (if x27 < 16 then (j40 true) else (j40 false))) else (some (x29)))) fun (j37 : Bool → Option ((List Int))) => (if x27 < 64 then (j37 true) else (j37 false)))
def hash_words.m (K : Nat) (x0 : (List Int)) : Option (List Int) :=
  ((hash_words.l1.m K x0 K 0 (List.replicate 64 (0 : Int))).bind fun x32 => (some x32))

theorem hash_words.calls {B I : Gh} {h : Heap} {K : Nat} {x0 : (List Int)} {a21 : Option Addr} {p22 : Nat} {n23 : Nat} {r : (List Int)} (H : hash_words.m K x0 = some r)  :
    Fc Tryd.prog 65 #[.slice a21 n23 p22] [rR (tInt .u8) .b a21 p22 n23 x0] B I h (fun v L => v = .agg (List.map (Value.int .u32) r).toArray ∧ L = [] ∧ List.length r = 64) := by
 refine fc_of fun E hs => ?_
 unfold hash_words.m at H
 obtain rfl := hs.nR d0
 refine fn_of2 (args := [.slice a21 x0.length p22]) (rs := [.cell 2 122]) (N := 90) Tryd.func65 rfl rfl rfl rfl ?_
 refine st 2 [] (k_op (nA hs (List.map (Value.int .u32) (List.replicate 64 (0 : Int))) (.agg (List.map (Value.int .u32) (List.replicate 64 (0 : Int))).toArray) ?_))
 intro b25 h hs
 refine st 3 [] (k_op (nA hs (List.map (Value.int .u32) (List.replicate 64 (0 : Int))) (.agg (List.map (Value.int .u32) (List.replicate 64 (0 : Int))).toArray) ?_))
 intro b26 h hs
 refine st 7 [] ?_
 obtain ⟨s30, m34, HR33⟩ := bind_some H
 refine k_loop 0 (fun k' ρ h => ∃ (x27 : Int) (x29 : List Int) (I : Gh), hash_words.l1.m K x0 k' x27 x29 = some s30 ∧ Fits [(0, .slice a21 x0.length p22), (2, .pointer (some ⟨b25, 0, none⟩)), (3, .pointer (some ⟨b26, 0, none⟩)), (9, .int .i64 x27)] ρ ∧ List.length x29 = 64 ∧ St E [rR (tInt .u8) .b a21 p22 x0.length x0, rB b25 (List.map (Value.int .u32) (List.replicate 64 (0 : Int))) 122, rB b26 (List.map (Value.int .u32) x29) 122] I h) (fun ρ h => ∃ (x32 : List Int) (I : Gh), x32 = s30 ∧ Fits [(2, .pointer (some ⟨b25, 0, none⟩)), (3, .pointer (some ⟨b26, 0, none⟩))] ρ ∧ List.length x32 = 64 ∧ St E [rB b25 (List.map (Value.int .u32) (List.replicate 64 (0 : Int))) 122, rB b26 (List.map (Value.int .u32) x32) 122] I h) K ⟨0, (List.replicate 64 (0 : Int)), I, m34, ⟨by kernel_rfl, by kernel_rfl, by kernel_rfl, by kernel_rfl, trivial⟩, (List.length_replicate (n := 64) (a := (0 : Int))), hs.pk (.c d2 (.c d1 (.c d0 .n)))⟩ ?_ rfl ?_
 ·clear HR33 m34 H
  rintro k' ρ h ⟨x27, x29, I, H, hf, hl28, hs⟩
  cases k' with
  | zero => cases H
  | succ k =>
   rw [hash_words.l1.m] at H
   refine k_fits _ hf ?_ rfl
   refine st 1 [] ?_
   obtain ⟨j37, e66, H⟩ := letJ_some H
   refine k_join (fun ρ h => ∃ (x36 : Bool) (I : Gh), j37 x36 = some s30 ∧ Fits [(0, .slice a21 x0.length p22), (2, .pointer (some ⟨b25, 0, none⟩)), (3, .pointer (some ⟨b26, 0, none⟩)), (9, .int .i64 x27), (10, .bool x36)] ρ ∧ St E [rR (tInt .u8) .b a21 p22 x0.length x0, rB b25 (List.map (Value.int .u32) (List.replicate 64 (0 : Int))) 122, rB b26 (List.map (Value.int .u32) x29) 122] I h) ?_ ?_
   ·refine st 1 [] (k_ite H (fun c35 H => ?_) (fun c35 H => ?_))
    ·refine st 1 [] ?_
     exact k_end ⟨true, I, H, ⟨by kernel_rfl, by kernel_rfl, by kernel_rfl, by kernel_rfl, by kernel_rfl, trivial⟩, hs.pk (.c d0 (.c d0 (.c d0 .n)))⟩
    ·refine st 1 [] ?_
     exact k_end ⟨false, I, H, ⟨by kernel_rfl, by kernel_rfl, by kernel_rfl, by kernel_rfl, by kernel_rfl, trivial⟩, hs.pk (.c d0 (.c d0 (.c d0 .n)))⟩
   ·clear H
    rintro ρ h ⟨x36, I, H, hf, hs⟩
    refine k_fits _ hf ?_ rfl
    subst e66
    try dsimp only at H
    cases x36
    ·rw [cond_false] at H
     refine st 2 [false] ?_
     refine k_out rfl ?_
     obtain rfl := Option.some.inj H
     exact xE ⟨x29, I, rfl, ⟨by kernel_rfl, by kernel_rfl, trivial⟩, hl28, hs.pk (.c d1 (.c d1 .n))⟩
    ·rw [cond_true] at H
     refine st 12 [true] ?_
     obtain ⟨j40, e65, H⟩ := letJ_some H
     refine k_join (fun ρ h => ∃ (x39 : Bool) (I : Gh), j40 x39 = some s30 ∧ Fits [(0, .slice a21 x0.length p22), (2, .pointer (some ⟨b25, 0, none⟩)), (3, .pointer (some ⟨b26, 0, none⟩)), (4, .int .i64 x27), (9, .int .i64 x27), (13, .bool x39)] ρ ∧ St E [rR (tInt .u8) .b a21 p22 x0.length x0, rB b25 (List.map (Value.int .u32) (List.replicate 64 (0 : Int))) 122, rB b26 (List.map (Value.int .u32) x29) 122] I h) ?_ ?_
     ·refine st 2 [] (k_ite H (fun c38 H => ?_) (fun c38 H => ?_))
      ·refine st 1 [] ?_
       exact k_end ⟨true, I, H, ⟨by kernel_rfl, by kernel_rfl, by kernel_rfl, by kernel_rfl, by kernel_rfl, by kernel_rfl, trivial⟩, hs.pk (.c d0 (.c d0 (.c d0 .n)))⟩
      ·refine st 1 [] ?_
       exact k_end ⟨false, I, H, ⟨by kernel_rfl, by kernel_rfl, by kernel_rfl, by kernel_rfl, by kernel_rfl, by kernel_rfl, trivial⟩, hs.pk (.c d0 (.c d0 (.c d0 .n)))⟩
     ·clear H
      rintro ρ h ⟨x39, I, H, hf, hs⟩
      refine k_fits _ hf ?_ rfl
      subst e65
      try dsimp only at H
      cases x39
      ·rw [cond_false] at H
       refine st 3 [false] ?_
       obtain ⟨hs0, bk0⟩ := hs.call tk0 (.c (qL d2) .n)
       have hs := hs0
       refine k_regD hs0 10 ?_
       obtain ⟨c51, H⟩ := guard_pos H
       obtain ⟨c52, H⟩ := guard_pos H
       refine aRun [0, 1] 8 hs.keep ?_
       refine aP 2 (elemPtr (some ⟨b26, 0, none⟩) ((w64 (x27 - 15)).toNat * 1)) rfl (pr_indexArr (e := 114) (kk := .i64) (n := 64) (by kernel_rfl) (by kernel_rfl) (by kernel_rfl) (by kernel_rfl) c51 c52) hs.keep ?_
       refine aL 3 rfl hs.keep ((OwnB.mk (I := No) (hs0.g d0).1 (fun x => x)).arrCell (i := (w64 (x27 - 15))) hl28 c51 c52) (nmL hs0 d0) ?_
       obtain ⟨c53, H⟩ := guard_pos H
       obtain ⟨c54, H⟩ := guard_pos H
       refine aRun [4, 5] 4 hs.keep ?_
       refine aP 6 (elemPtr (some ⟨b26, 0, none⟩) ((w64 (x27 - 2)).toNat * 1)) rfl (pr_indexArr (e := 114) (kk := .i64) (n := 64) (by kernel_rfl) (by kernel_rfl) (by kernel_rfl) (by kernel_rfl) c53 c54) hs.keep ?_
       refine aL 7 rfl hs.keep ((OwnB.mk (I := No) (hs0.g d0).1 (fun x => x)).arrCell (i := (w64 (x27 - 2))) hl28 c53 c54) (nmL hs0 d0) ?_
       refine aRun [8, 9] 0 hs.keep ?_
       replace hs := hs.pk .n
       replace hs := bk0 hs ct0 rfl
       refine aEnd ?_
       refine st 3 [] (k_call H (fun _ m => hash_turn.calls m) ?_)
       rintro t55 _ _ H ⟨rfl, rfl⟩
       refine st 1 [] (k_call H (fun _ m => hash_turn.calls m) ?_)
       rintro t56 _ _ H ⟨rfl, rfl⟩
       refine st 9 [] (k_call H (fun _ m => hash_turn.calls m) ?_)
       rintro t57 _ _ H ⟨rfl, rfl⟩
       refine st 1 [] (k_call H (fun _ m => hash_turn.calls m) ?_)
       rintro t58 _ _ H ⟨rfl, rfl⟩
       refine st 6 [] ?_
       obtain ⟨hs0, bk0⟩ := hs.call tk0 (.c (qL d2) .n)
       have hs := hs0
       refine k_regD hs0 15 ?_
       obtain ⟨c59, H⟩ := guard_pos H
       obtain ⟨c60, H⟩ := guard_pos H
       refine aRun [0, 1, 2] 13 hs.keep ?_
       refine aP 3 (elemPtr (some ⟨b26, 0, none⟩) ((w64 (x27 - 16)).toNat * 1)) rfl (pr_indexArr (e := 114) (kk := .i64) (n := 64) (by kernel_rfl) (by kernel_rfl) (by kernel_rfl) (by kernel_rfl) c59 c60) hs.keep ?_
       refine aL 4 rfl hs.keep ((OwnB.mk (I := No) (hs0.g d0).1 (fun x => x)).arrCell (i := (w64 (x27 - 16))) hl28 c59 c60) (nmL hs0 d0) ?_
       obtain ⟨c61, H⟩ := guard_pos H
       obtain ⟨c62, H⟩ := guard_pos H
       refine aRun [5, 6, 7, 8] 7 hs.keep ?_
       refine aP 9 (elemPtr (some ⟨b26, 0, none⟩) ((w64 (x27 - 7)).toNat * 1)) rfl (pr_indexArr (e := 114) (kk := .i64) (n := 64) (by kernel_rfl) (by kernel_rfl) (by kernel_rfl) (by kernel_rfl) c61 c62) hs.keep ?_
       refine aL 10 rfl hs.keep ((OwnB.mk (I := No) (hs0.g d0).1 (fun x => x)).arrCell (i := (w64 (x27 - 7))) hl28 c61 c62) (nmL hs0 d0) ?_
       obtain ⟨c63, H⟩ := guard_pos H
       obtain ⟨c64, H⟩ := guard_pos H
       refine aRun [11, 12, 13] 2 hs.keep ?_
       refine aP 14 (elemPtr (some ⟨b26, 0, none⟩) (x27.toNat * 1)) rfl (pr_indexArr (e := 114) (kk := .i64) (n := 64) (by kernel_rfl) (by kernel_rfl) (by kernel_rfl) (by kernel_rfl) c63 c64) hs.keep ?_
       replace hs := hs.pk .n
       replace hs := bk0 hs ct0 rfl
       refine aOL 15 rfl (sA (hs.f d2) (IntKind.u32.wrap ((IntKind.u32.wrap ((IntKind.u32.wrap ((at_ x29 (w64 (x27 - 16))) + (bXor .u32 (bXor .u32 t55 t56) (shr .u32 (at_ x29 (w64 (x27 - 15))) 3)))) + (at_ x29 (w64 (x27 - 7))))) + (bXor .u32 (bXor .u32 t57 t58) (shr .u32 (at_ x29 (w64 (x27 - 2))) 10)))) hl28 c63 c64 ?_)
       intro h hs
       refine aEnd ?_
       refine st 5 [] ?_
       exact k_endL ⟨k, Nat.lt_succ_self _, (w64 (x27 + 1)), (x29.set x27.toNat (IntKind.u32.wrap ((IntKind.u32.wrap ((IntKind.u32.wrap ((at_ x29 (w64 (x27 - 16))) + (bXor .u32 (bXor .u32 t55 t56) (shr .u32 (at_ x29 (w64 (x27 - 15))) 3)))) + (at_ x29 (w64 (x27 - 7))))) + (bXor .u32 (bXor .u32 t57 t58) (shr .u32 (at_ x29 (w64 (x27 - 2))) 10))))), I, H, ⟨by kernel_rfl, by kernel_rfl, by kernel_rfl, by kernel_rfl, trivial⟩, (len_set hl28), hs.pk (.c d1 (.c d1 (.c d0 .n)))⟩
      ·rw [cond_true] at H
       refine st 2 [true] ?_
       obtain ⟨hs0, bk0⟩ := hs.call tk0 (.c (qB d0) .n)
       have hs := hs0
       refine k_regD hs0 35 ?_
       obtain ⟨c41, H⟩ := guard_pos H
       obtain ⟨c42, H⟩ := guard_pos H
       refine aRun [0, 1, 2, 3] 32 hs.keep ?_
       refine aP 4 (elemPtr a21 ((w64 (4 * x27)).toNat * 1)) rfl (pI (e := 5) (ik := .i64) (hs.sR d0) c41 c42) hs.keep ?_
       refine aL 5 rfl hs.keep ((hs0.sR d0).cell1 c41 c42) (nmR hs0 d0 c41 c42) ?_
       obtain ⟨c43, H⟩ := guard_pos H
       obtain ⟨c44, H⟩ := guard_pos H
       refine aRun [6, 7, 8, 9, 10, 11] 24 hs.keep ?_
       refine aP 12 (elemPtr a21 ((w64 ((w64 (4 * x27)) + 1)).toNat * 1)) rfl (pI (e := 5) (ik := .i64) (hs.sR d0) c43 c44) hs.keep ?_
       refine aL 13 rfl hs.keep ((hs0.sR d0).cell1 c43 c44) (nmR hs0 d0 c43 c44) ?_
       obtain ⟨c45, H⟩ := guard_pos H
       obtain ⟨c46, H⟩ := guard_pos H
       refine aRun [14, 15, 16, 17, 18, 19, 20] 15 hs.keep ?_
       refine aP 21 (elemPtr a21 ((w64 ((w64 (4 * x27)) + 2)).toNat * 1)) rfl (pI (e := 5) (ik := .i64) (hs.sR d0) c45 c46) hs.keep ?_
       refine aL 22 rfl hs.keep ((hs0.sR d0).cell1 c45 c46) (nmR hs0 d0 c45 c46) ?_
       obtain ⟨c47, H⟩ := guard_pos H
       obtain ⟨c48, H⟩ := guard_pos H
       refine aRun [23, 24, 25, 26, 27, 28, 29] 6 hs.keep ?_
       refine aP 30 (elemPtr a21 ((w64 ((w64 (4 * x27)) + 3)).toNat * 1)) rfl (pI (e := 5) (ik := .i64) (hs.sR d0) c47 c48) hs.keep ?_
       refine aL 31 rfl hs.keep ((hs0.sR d0).cell1 c47 c48) (nmR hs0 d0 c47 c48) ?_
       obtain ⟨c49, H⟩ := guard_pos H
       obtain ⟨c50, H⟩ := guard_pos H
       refine aRun [32, 33] 2 hs.keep ?_
       refine aP 34 (elemPtr (some ⟨b26, 0, none⟩) (x27.toNat * 1)) rfl (pr_indexArr (e := 114) (kk := .i64) (n := 64) (by kernel_rfl) (by kernel_rfl) (by kernel_rfl) (by kernel_rfl) c49 c50) hs.keep ?_
       replace hs := hs.pk .n
       replace hs := bk0 hs ct0 rfl
       refine aOL 35 rfl (sA (hs.f d2) (bOr .u32 (bOr .u32 (bOr .u32 (shl .u32 (IntKind.u32.wrap ((at_ x0 (w64 (4 * x27))))) 24) (shl .u32 (IntKind.u32.wrap ((at_ x0 (w64 ((w64 (4 * x27)) + 1))))) 16)) (shl .u32 (IntKind.u32.wrap ((at_ x0 (w64 ((w64 (4 * x27)) + 2))))) 8)) (IntKind.u32.wrap ((at_ x0 (w64 ((w64 (4 * x27)) + 3)))))) hl28 c49 c50 ?_)
       intro h hs
       refine aEnd ?_
       refine st 5 [] ?_
       exact k_endL ⟨k, Nat.lt_succ_self _, (w64 (x27 + 1)), (x29.set x27.toNat (bOr .u32 (bOr .u32 (bOr .u32 (shl .u32 (IntKind.u32.wrap ((at_ x0 (w64 (4 * x27))))) 24) (shl .u32 (IntKind.u32.wrap ((at_ x0 (w64 ((w64 (4 * x27)) + 1))))) 16)) (shl .u32 (IntKind.u32.wrap ((at_ x0 (w64 ((w64 (4 * x27)) + 2))))) 8)) (IntKind.u32.wrap ((at_ x0 (w64 ((w64 (4 * x27)) + 3))))))), I, H, ⟨by kernel_rfl, by kernel_rfl, by kernel_rfl, by kernel_rfl, trivial⟩, (len_set hl28), hs.pk (.c d1 (.c d1 (.c d0 .n)))⟩
 ·rintro ρ h ⟨x32, I, rfl, hf, hl31, hs⟩
  have H := HR33
  try dsimp only at H
  refine k_fits _ hf ?_ rfl
  refine st 2 [] (k_op (lG ((hs.bl d1).arrSeg hl31) ?_))
  refine k_op (sAN (l2 := x32) hs (List.length_replicate (n := 64) (a := (0 : Int))) hl31 ?_)
  intro h hs
  refine st 1 [] ?_
  refine k_retQ ?_
  obtain rfl := Option.some.inj H
  exact ⟨[.agg (List.map (Value.int .u32) x32).toArray], (.cons (.agg (by kernel_rfl) (by kernel_rfl) (by kernel_rfl) ((hs.bl d0).arrSeg hl31)) .nil), I, _, ⟨rfl, rfl, hl31⟩, hs.pk .n⟩

end Go.Proofs.YtgljelhakcallaaDoor.Sx
