/- Printed walks, part 0: each function's model, and that the code comes to it. -/
import Derived.Test.YtfbcjibdgicaoaaDoorProg
import Derived.Test.YtfbcjibdgicaoaaDoorV4
import Derived.Test.YtfbcjibdgicaoaaDoorV6
import Derived.Test.YtfbcjibdgicaoaaDoorV7
import Derived.Test.YtfbcjibdgicaoaaDoorV8
namespace Go.Proofs.YtfbcjibdgicaoaaDoor.Sx
open Go
set_option maxRecDepth 100000
set_option maxHeartbeats 4000000

structure bytes_Cursor where
  b' : (List Int)
  at' : Int
  err' : GoErr
  deriving DecidableEq, Inhabited

def t_bytes_Cursor : Ty bytes_Cursor where
  size := 3
  rep I h cs x := ∃ a_0, ∃ c_0, ∃ n_0, ∃ v_2, cs = [.slice a_0 n_0 c_0, .int .i64 x.at', v_2] ∧ (Rd (tInt .u8) I h a_0 c_0 x.b' ∧ x.b'.length = n_0) ∧ ErrV I h x.err' v_2
  len := by rintro _ _ _ _ ⟨_, _, _, _, rfl, _, _⟩; rfl
  one := by
    rintro _ _ _ _ ⟨e0, e1, e2, e3, rfl, q0, q1⟩ v hv
    simp only [List.mem_cons, List.not_mem_nil, or_false] at hv
    rcases hv with rfl | rfl | rfl
    · exact rfl
    · exact rfl
    · exact q1.one
  up := by rintro _ _ _ _ _ _ u ⟨e0, e1, e2, e3, rfl, q0, q1⟩; exact ⟨e0, e1, e2, e3, rfl, ⟨q0.1.up u, q0.2⟩, q1.up u⟩
theorem t_bytes_Cursor.open_ {I : Gh} {h : Heap} {cs : List Value} {x : bytes_Cursor} (r : t_bytes_Cursor.rep I h cs x) : ∃ a_0, ∃ c_0, ∃ n_0, ∃ v_2, cs = [.slice a_0 n_0 c_0, .int .i64 x.at', v_2] ∧ (Rd (tInt .u8) I h a_0 c_0 x.b' ∧ x.b'.length = n_0) ∧ ErrV I h x.err' v_2 := r

structure api_Attr where
  Protected : Bool
  Numeric : Bool
  Show : Int
  Modified : Bool
  deriving DecidableEq, Inhabited

def t_api_Attr : Ty api_Attr where
  size := 4
  rep I h cs x := cs = [.bool x.Protected, .bool x.Numeric, .int .i64 x.Show, .bool x.Modified]
  len := by rintro _ _ _ _ rfl; rfl
  one := by
    rintro _ _ _ _ rfl v hv
    simp only [List.mem_cons, List.not_mem_nil, or_false] at hv
    rcases hv with rfl | rfl | rfl | rfl
    · exact rfl
    · exact rfl
    · exact rfl
    · exact rfl
  up := by intro _ _ _ _ _ _ _ e; exact e
theorem t_api_Attr.open_ {I : Gh} {h : Heap} {cs : List Value} {x : api_Attr} (r : t_api_Attr.rep I h cs x) : cs = [.bool x.Protected, .bool x.Numeric, .int .i64 x.Show, .bool x.Modified] := r

structure api_Cell where
  Field : Bool
  Attr : api_Attr
  Char : Int
  deriving DecidableEq, Inhabited

def t_api_Cell : Ty api_Cell where
  size := 6
  rep I h cs x := cs = [.bool x.Field, .bool x.Attr.Protected, .bool x.Attr.Numeric, .int .i64 x.Attr.Show, .bool x.Attr.Modified, .int .u8 x.Char]
  len := by rintro _ _ _ _ rfl; rfl
  one := by
    rintro _ _ _ _ rfl v hv
    simp only [List.mem_cons, List.not_mem_nil, or_false] at hv
    rcases hv with rfl | rfl | rfl | rfl | rfl | rfl
    · exact rfl
    · exact rfl
    · exact rfl
    · exact rfl
    · exact rfl
    · exact rfl
  up := by intro _ _ _ _ _ _ _ e; exact e
theorem t_api_Cell.open_ {I : Gh} {h : Heap} {cs : List Value} {x : api_Cell} (r : t_api_Cell.rep I h cs x) : cs = [.bool x.Field, .bool x.Attr.Protected, .bool x.Attr.Numeric, .int .i64 x.Attr.Show, .bool x.Attr.Modified, .int .u8 x.Char] := r

structure api_Screen where
  Rows : Int
  Cols : Int
  Cells : (List api_Cell)
  Cursor : Int
  Locked : Bool
  Insert : Bool
  deriving DecidableEq, Inhabited

def t_api_Screen : Ty api_Screen where
  size := 6
  rep I h cs x := ∃ a_2, ∃ c_2, ∃ n_2, cs = [.int .i64 x.Rows, .int .i64 x.Cols, .slice a_2 n_2 c_2, .int .i64 x.Cursor, .bool x.Locked, .bool x.Insert] ∧ (Rd t_api_Cell I h a_2 c_2 x.Cells ∧ x.Cells.length = n_2)
  len := by rintro _ _ _ _ ⟨_, _, _, rfl, _⟩; rfl
  one := by
    rintro _ _ _ _ ⟨e0, e1, e2, rfl, q0⟩ v hv
    simp only [List.mem_cons, List.not_mem_nil, or_false] at hv
    rcases hv with rfl | rfl | rfl | rfl | rfl | rfl
    · exact rfl
    · exact rfl
    · exact rfl
    · exact rfl
    · exact rfl
    · exact rfl
  up := by rintro _ _ _ _ _ _ u ⟨e0, e1, e2, rfl, q0⟩; exact ⟨e0, e1, e2, rfl, ⟨q0.1.up u, q0.2⟩⟩
theorem t_api_Screen.open_ {I : Gh} {h : Heap} {cs : List Value} {x : api_Screen} (r : t_api_Screen.rep I h cs x) : ∃ a_2, ∃ c_2, ∃ n_2, cs = [.int .i64 x.Rows, .int .i64 x.Cols, .slice a_2 n_2 c_2, .int .i64 x.Cursor, .bool x.Locked, .bool x.Insert] ∧ (Rd t_api_Cell I h a_2 c_2 x.Cells ∧ x.Cells.length = n_2) := r

structure api_Order where
  Kind : Int
  Text : (List Int)
  Attr : api_Attr
  Addr : Int
  Char : Int
  deriving DecidableEq, Inhabited

def t_api_Order : Ty api_Order where
  size := 8
  rep I h cs x := ∃ a_1, ∃ c_1, ∃ n_1, cs = [.int .i64 x.Kind, .slice a_1 n_1 c_1, .bool x.Attr.Protected, .bool x.Attr.Numeric, .int .i64 x.Attr.Show, .bool x.Attr.Modified, .int .i64 x.Addr, .int .u8 x.Char] ∧ (Rd (tInt .u8) I h a_1 c_1 x.Text ∧ x.Text.length = n_1)
  len := by rintro _ _ _ _ ⟨_, _, _, rfl, _⟩; rfl
  one := by
    rintro _ _ _ _ ⟨e0, e1, e2, rfl, q0⟩ v hv
    simp only [List.mem_cons, List.not_mem_nil, or_false] at hv
    rcases hv with rfl | rfl | rfl | rfl | rfl | rfl | rfl | rfl
    · exact rfl
    · exact rfl
    · exact rfl
    · exact rfl
    · exact rfl
    · exact rfl
    · exact rfl
    · exact rfl
  up := by rintro _ _ _ _ _ _ u ⟨e0, e1, e2, rfl, q0⟩; exact ⟨e0, e1, e2, rfl, ⟨q0.1.up u, q0.2⟩⟩
theorem t_api_Order.open_ {I : Gh} {h : Heap} {cs : List Value} {x : api_Order} (r : t_api_Order.rep I h cs x) : ∃ a_1, ∃ c_1, ∃ n_1, cs = [.int .i64 x.Kind, .slice a_1 n_1 c_1, .bool x.Attr.Protected, .bool x.Attr.Numeric, .int .i64 x.Attr.Show, .bool x.Attr.Modified, .int .i64 x.Addr, .int .u8 x.Char] ∧ (Rd (tInt .u8) I h a_1 c_1 x.Text ∧ x.Text.length = n_1) := r

structure api_Entry where
  Addr : Int
  Text : (List Int)
  deriving DecidableEq, Inhabited

def t_api_Entry : Ty api_Entry where
  size := 2
  rep I h cs x := ∃ a_1, ∃ c_1, ∃ n_1, cs = [.int .i64 x.Addr, .slice a_1 n_1 c_1] ∧ (Rd (tInt .u8) I h a_1 c_1 x.Text ∧ x.Text.length = n_1)
  len := by rintro _ _ _ _ ⟨_, _, _, rfl, _⟩; rfl
  one := by
    rintro _ _ _ _ ⟨e0, e1, e2, rfl, q0⟩ v hv
    simp only [List.mem_cons, List.not_mem_nil, or_false] at hv
    rcases hv with rfl | rfl
    · exact rfl
    · exact rfl
  up := by rintro _ _ _ _ _ _ u ⟨e0, e1, e2, rfl, q0⟩; exact ⟨e0, e1, e2, rfl, ⟨q0.1.up u, q0.2⟩⟩
theorem t_api_Entry.open_ {I : Gh} {h : Heap} {cs : List Value} {x : api_Entry} (r : t_api_Entry.rep I h cs x) : ∃ a_1, ∃ c_1, ∃ n_1, cs = [.int .i64 x.Addr, .slice a_1 n_1 c_1] ∧ (Rd (tInt .u8) I h a_1 c_1 x.Text ∧ x.Text.length = n_1) := r

structure api_In where
  Aid : Int
  Cursor : Int
  Fields : (List api_Entry)
  deriving DecidableEq, Inhabited

def t_api_In : Ty api_In where
  size := 3
  rep I h cs x := ∃ a_2, ∃ c_2, ∃ n_2, cs = [.int .u8 x.Aid, .int .i64 x.Cursor, .slice a_2 n_2 c_2] ∧ (Rd t_api_Entry I h a_2 c_2 x.Fields ∧ x.Fields.length = n_2)
  len := by rintro _ _ _ _ ⟨_, _, _, rfl, _⟩; rfl
  one := by
    rintro _ _ _ _ ⟨e0, e1, e2, rfl, q0⟩ v hv
    simp only [List.mem_cons, List.not_mem_nil, or_false] at hv
    rcases hv with rfl | rfl | rfl
    · exact rfl
    · exact rfl
    · exact rfl
  up := by rintro _ _ _ _ _ _ u ⟨e0, e1, e2, rfl, q0⟩; exact ⟨e0, e1, e2, rfl, ⟨q0.1.up u, q0.2⟩⟩
theorem t_api_In.open_ {I : Gh} {h : Heap} {cs : List Value} {x : api_In} (r : t_api_In.rep I h cs x) : ∃ a_2, ∃ c_2, ∃ n_2, cs = [.int .u8 x.Aid, .int .i64 x.Cursor, .slice a_2 n_2 c_2] ∧ (Rd t_api_Entry I h a_2 c_2 x.Fields ∧ x.Fields.length = n_2) := r

structure api_Wcc where
  Alarm : Bool
  Unlock : Bool
  Reset : Bool
  deriving DecidableEq, Inhabited

def t_api_Wcc : Ty api_Wcc where
  size := 3
  rep I h cs x := cs = [.bool x.Alarm, .bool x.Unlock, .bool x.Reset]
  len := by rintro _ _ _ _ rfl; rfl
  one := by
    rintro _ _ _ _ rfl v hv
    simp only [List.mem_cons, List.not_mem_nil, or_false] at hv
    rcases hv with rfl | rfl | rfl
    · exact rfl
    · exact rfl
    · exact rfl
  up := by intro _ _ _ _ _ _ _ e; exact e
theorem t_api_Wcc.open_ {I : Gh} {h : Heap} {cs : List Value} {x : api_Wcc} (r : t_api_Wcc.rep I h cs x) : cs = [.bool x.Alarm, .bool x.Unlock, .bool x.Reset] := r

structure api_Out where
  Cmd : Int
  Wcc : api_Wcc
  Orders : (List api_Order)
  deriving DecidableEq, Inhabited

def t_api_Out : Ty api_Out where
  size := 5
  rep I h cs x := ∃ a_2, ∃ c_2, ∃ n_2, cs = [.int .i64 x.Cmd, .bool x.Wcc.Alarm, .bool x.Wcc.Unlock, .bool x.Wcc.Reset, .slice a_2 n_2 c_2] ∧ (Rd t_api_Order I h a_2 c_2 x.Orders ∧ x.Orders.length = n_2)
  len := by rintro _ _ _ _ ⟨_, _, _, rfl, _⟩; rfl
  one := by
    rintro _ _ _ _ ⟨e0, e1, e2, rfl, q0⟩ v hv
    simp only [List.mem_cons, List.not_mem_nil, or_false] at hv
    rcases hv with rfl | rfl | rfl | rfl | rfl
    · exact rfl
    · exact rfl
    · exact rfl
    · exact rfl
    · exact rfl
  up := by rintro _ _ _ _ _ _ u ⟨e0, e1, e2, rfl, q0⟩; exact ⟨e0, e1, e2, rfl, ⟨q0.1.up u, q0.2⟩⟩
theorem t_api_Out.open_ {I : Gh} {h : Heap} {cs : List Value} {x : api_Out} (r : t_api_Out.rep I h cs x) : ∃ a_2, ∃ c_2, ∃ n_2, cs = [.int .i64 x.Cmd, .bool x.Wcc.Alarm, .bool x.Wcc.Unlock, .bool x.Wcc.Reset, .slice a_2 n_2 c_2] ∧ (Rd t_api_Order I h a_2 c_2 x.Orders ∧ x.Orders.length = n_2) := r

theorem shp_api_Order : Shp t_api_Order (fun x y => x.Text.length = y.Text.length) := by
  rintro J h h' b o cs x g ⟨a, p, n, rfl, r, e⟩
  obtain ⟨l', r', e'⟩ := rd_u8 g r
  exact ⟨{ x with Text := l' }, ⟨a, p, n, rfl, r', e'.trans e⟩, e'⟩
theorem shp_api_Entry : Shp t_api_Entry (fun x y => x.Text.length = y.Text.length) := by
  rintro J h h' b o cs x g ⟨a, p, n, rfl, r, e⟩
  obtain ⟨l', r', e'⟩ := rd_u8 g r
  exact ⟨{ x with Text := l' }, ⟨a, p, n, rfl, r', e'.trans e⟩, e'⟩
/-! shutter/shutterref01.Same -/
def shutterref01_Same.l1.m (K : Nat) (x0 : (List Int)) (x1 : (List Int)) : Nat → Int → Option (Bool ⊕ (Unit))
  | 0, _ => none
  | k + 1, x32 => (if x32 < (x0.length : Int) then (if 0 ≤ x32 then (if x32 < (x1.length : Int) then (if (at_ x0 x32) = (at_ x1 x32) then (shutterref01_Same.l1.m K x0 x1 k (w64 (x32 + 1))) else (some (Sum.inl false))) else none) else none) else (some (Sum.inr ())))
def shutterref01_Same.m (K : Nat) (x0 : (List Int)) (x1 : (List Int)) : Option Bool :=
  (if (x0.length : Int) = (x1.length : Int) then ((shutterref01_Same.l1.m K x0 x1 K 0).bind fun s33 => match s33 with | .inl q => (some q) | .inr _ => (some true)) else (some false))

theorem shutterref01_Same.calls {G : Gh} {K : Nat} {x0 : (List Int)} {x1 : (List Int)} {a21 : Option Addr} {p22 : Nat} {n23 : Nat} {a25 : Option Addr} {p26 : Nat} {n27 : Nat} {h : Heap} {r : Bool} (H : shutterref01_Same.m K x0 x1 = some r)  (s29 : Sn (tInt .u8) G h a21 p22 n23 x0) (s30 : Sn (tInt .u8) G h a25 p26 n27 x1) :
    Ret Tryd.prog 8 #[.slice a21 n23 p22, .slice a25 n27 p26] h (fun v h' => .bool r = v ∧ h' = h) := by
 unfold shutterref01_Same.m at H
 obtain rfl := s29.len.symm
 obtain rfl := s30.len.symm
 refine fn_of (args := [.slice a21 x0.length p22, .slice a25 x1.length p26]) (rs := [.tmp 4]) (N := 26) Tryd.func8 rfl rfl rfl rfl ?_
 refine st 11 [] (k_iteN H (fun c31 H => ?_) (fun c31 H => ?_))
 ·refine st 9 [false] ?_
  obtain ⟨s33, m35, HR34⟩ := bind_some H
  refine k_loop 0 (fun k' ρ h1 => ∃ (x32 : Int), shutterref01_Same.l1.m K x0 x1 k' x32 = some s33 ∧ Fits [(0, .slice a21 x0.length p22), (1, .slice a25 x1.length p26), (5, .int .i64 x32)] ρ ∧ h = h1) (fun ρ h1 => Sum.inr () = s33 ∧ Fits [] ρ ∧ h = h1) K ⟨0, m35, ⟨by kernel_rfl, by kernel_rfl, by kernel_rfl, trivial⟩, rfl⟩ ?_ rfl ?_
  ·clear m35 H
   rintro k' ρ h1 ⟨x32, H, hf, rfl⟩
   cases k' with
   | zero => cases H
   | succ k =>
    rw [shutterref01_Same.l1.m] at H
    refine k_fits _ hf ?_ rfl
    refine st 6 [] (k_ite H (fun c36 H => ?_) (fun c36 H => ?_))
    ·refine st 6 [true] ?_
     refine k_regP 9 ?_
     obtain ⟨c37, H⟩ := guard_pos H
     refine aRun [0, 1] 7 Keep.refl ?_
     refine aP 2 (elemPtr a21 (x32.toNat * 1)) rfl (pI (e := 5) (ik := .i64) s29 c37 c36) Keep.refl ?_
     refine aL 3 rfl Keep.refl (s29.cell1 c37 c36) (fun _ _ x => x) ?_
     obtain ⟨c38, H⟩ := guard_pos H
     refine aRun [4, 5] 3 Keep.refl ?_
     refine aP 6 (elemPtr a25 (x32.toNat * 1)) rfl (pI (e := 5) (ik := .i64) s30 c37 c38) Keep.refl ?_
     refine aL 7 rfl Keep.refl (s30.cell1 c37 c38) (fun _ _ x => x) ?_
     by_cases c39 : (at_ x0 x32) = (at_ x1 x32)
     ·rw [if_pos c39] at H
      refine aP 8 (.bool false) rfl (pr_bool (by kernel_rfl) (neF c39)) Keep.refl ?_
      refine aEnd ?_
      refine st 8 [false] ?_
      exact k_endL ⟨k, Nat.lt_succ_self _, (w64 (x32 + 1)), H, ⟨by kernel_rfl, by kernel_rfl, by kernel_rfl, trivial⟩, rfl⟩
     ·rw [if_neg c39] at H
      refine aP 8 (.bool true) rfl (pr_bool (by kernel_rfl) (neT c39)) Keep.refl ?_
      refine aEnd ?_
      refine st 5 [true] ?_
      refine k_retQ (krL ?_)
      obtain rfl := Option.some.inj H
      obtain rfl := Option.some.inj HR34
      exact ⟨_, by kernel_rfl, rfl, rfl⟩
    ·refine st 2 [false] ?_
     refine k_out rfl ?_
     obtain rfl := Option.some.inj H
     exact xE ⟨rfl, trivial, rfl⟩
  ·rintro ρ h1 ⟨rfl, hf, rfl⟩
   have H := HR34
   try dsimp only at H
   refine k_fits _ hf ?_ rfl
   refine st 4 [] ?_
   refine k_retQ ?_
   obtain rfl := Option.some.inj H
   exact ⟨_, by kernel_rfl, rfl, rfl⟩
 ·refine st 6 [true] ?_
  refine k_retQ ?_
  obtain rfl := Option.some.inj H
  exact ⟨_, by kernel_rfl, rfl, rfl⟩

/-! slices.Clone[[]byte,byte] -/
def slices_Clone_bytes.m (x0 : (List Int)) : Option (List Int) :=
  ((app [] x0).bind fun l29 => (some l29))

theorem slices_Clone_bytes.calls {B I : Gh} {h : Heap} {x0 : (List Int)} {a21 : Option Addr} {p22 : Nat} {n23 : Nat} {r : (List Int)} (H : slices_Clone_bytes.m x0 = some r)  :
    Fc Tryd.prog 23 #[.slice a21 n23 p22] [rR (tInt .u8) .b a21 p22 n23 x0] B I h (fun v L => ∃ (a34 : Option Addr) (p35 : Nat) (n36 : Nat), v = .slice a34 n36 p35 ∧ L = [rO (tInt .u8) .i a34 p35 n36 r]) := by
 refine fc_of fun E hs => ?_
 unfold slices_Clone_bytes.m at H
 obtain rfl := hs.nR d0
 refine fn_of (args := [.slice a21 x0.length p22]) (rs := [.tmp 2]) (N := 8) Tryd.func23 rfl rfl rfl rfl ?_
 rcases a21 with _ | ad25
 ·have e26 := ((hs.sR d0).toSl.nil rfl).1
  replace H : (some []) = some r := by simpa [app, Lim, e26] using H
  refine st 15 [true] ?_
  refine k_retQ ?_
  obtain rfl := Option.some.inj H
  exact ⟨_, by kernel_rfl, I, _, ⟨none, 0, 0, rfl, rfl⟩, hs.pk (.f imON .n)⟩
 ·refine st 14 [false] (k_op (nS (e := 5) hs .i (tInt .u8) ([] : List Int) [] 1 (.int .u8 0) (Reps.int (I := (Cl.G .i E.B I)) (k := .u8) (l := [])) ?_))
  intro b27 h hs
  obtain ⟨l29, m30, H⟩ := bind_some H
  refine st 1 [] (k_op (aO (e := 5) (bytes := 1) hs ((hs.sR d1).flat flat_int) m30 ?_))
  intro a31 p32 h hs
  refine st 2 [] ?_
  refine k_retQ ?_
  obtain rfl := Option.some.inj H
  exact ⟨_, by kernel_rfl, I, _, ⟨a31, p32, l29.length, rfl, rfl⟩, hs.pk (.c d0 .n)⟩

/-! shutter/bytes.New -/
def bytes_New.m (x0 : (List Int)) : Option bytes_Cursor :=
  ((slices_Clone_bytes.m x0).bind fun t25 => (some (⟨t25, 0, GoErr.nil⟩ : bytes_Cursor)))

theorem bytes_New.calls {B I : Gh} {h : Heap} {x0 : (List Int)} {a21 : Option Addr} {p22 : Nat} {n23 : Nat} {r : bytes_Cursor} (H : bytes_New.m x0 = some r)  :
    Fc Tryd.prog 6 #[.slice a21 n23 p22] [rR (tInt .u8) .b a21 p22 n23 x0] B I h (fun v L => ∃ (b31 : Nat) (a32 : Option Addr) (p33 : Nat) (n34 : Nat) (v36 : Value), v = .pointer (some ⟨b31, 0, none⟩) ∧ L = [rB b31 [.slice a32 n34 p33, .int .i64 r.at', v36] 62, rR (tInt .u8) .i a32 p33 n34 r.b', rE .i v36 r.err']) := by
 refine fc_of fun E hs => ?_
 unfold bytes_New.m at H
 obtain rfl := hs.nR d0
 refine fn_of (args := [.slice a21 x0.length p22]) (rs := [.tmp 2]) (N := 7) Tryd.func6 rfl rfl rfl rfl ?_
 obtain ⟨hk, bk⟩ := hs.call tk0 (.c (qB d0) .n)
 refine st 7 [] (k_call H (fun _ m => slices_Clone_bytes.calls m hk) ?_)
 rintro t25 _ h H ⟨I, _, ⟨a26, p27, n28, rfl, rfl⟩, hk⟩
 replace hs := bk hk ct1 rfl
 obtain rfl := hs.nO d0
 refine st 1 [] (k_op (nB hs [.slice a26 t25.length p27, .int .i64 0, .nilIface] ?_))
 intro b30 h hs
 refine st 2 [] ?_
 refine k_retQ ?_
 obtain rfl := Option.some.inj H
 obtain ⟨I, hs⟩ := (hs.f d1).fO
 exact ⟨_, by kernel_rfl, I, _, ⟨b30, a26, p27, t25.length, (.nilIface), rfl, rfl⟩, hs.pk (.c d1 (.c d0 (.f imEN .n)))⟩

/-! (*shutter/bytes.Cursor).Left -/
def bytes_Cursor_Left.m (x0 : bytes_Cursor) : Option (Int × bytes_Cursor) :=
  (some ((w64 ((x0.b'.length : Int) - x0.at')), x0))

theorem bytes_Cursor_Left.calls {B I : Gh} {h : Heap} {x0 : bytes_Cursor} {b0 : Nat} {a21 : Option Addr} {p22 : Nat} {n23 : Nat} {v25 : Value} {r : (Int × bytes_Cursor)} (H : bytes_Cursor_Left.m x0 = some r)  :
    Fc Tryd.prog 24 #[.pointer (some ⟨b0, 0, none⟩)] [rB b0 [.slice a21 n23 p22, .int .i64 x0.at', v25] 62, rR (tInt .u8) .i a21 p22 n23 x0.b'] B I h (fun v L => ∃ (a26 : Option Addr) (p27 : Nat) (n28 : Nat), v = .int .i64 r.1 ∧ L = [rB b0 [.slice a26 n28 p27, .int .i64 r.2.at', v25] 62, rR (tInt .u8) .i a26 p27 n28 r.2.b']) := by
 refine fc_of fun E hs => ?_
 unfold bytes_Cursor_Left.m at H
 obtain rfl := hs.nR d1
 refine fn_of (args := [.pointer (some ⟨b0, 0, none⟩)]) (rs := [.tmp 2]) (N := 13) Tryd.func24 rfl rfl rfl rfl ?_
 refine st 5 [] ?_
 obtain ⟨hs0, bk0⟩ := hs.call tk0 (.c (qL d0) .n)
 have hs := hs0
 refine k_regD hs0 11 ?_
 refine aRun [0, 1, 2] 8 hs.keep ?_
 refine aL 3 rfl hs.keep (ll hs0 d0 (n := 0) rfl) (nmL hs0 d0) ?_
 refine aRun [4, 5, 6, 7] 3 hs.keep ?_
 refine aL 8 rfl hs.keep (ll hs0 d0 (n := 1) rfl) (nmL hs0 d0) ?_
 refine aRun [9, 10] 0 hs.keep ?_
 replace hs := hs.pk .n
 replace hs := bk0 hs ct0 rfl
 refine aEnd ?_
 refine k_retQ ?_
 obtain rfl := Option.some.inj H
 exact ⟨_, by kernel_rfl, I, _, ⟨a21, p22, x0.b'.length, rfl, rfl⟩, hs.pk (.c d0 (.c d0 .n))⟩

/-! (*shutter/bytes.Cursor).Fail -/
def bytes_Cursor_Fail.m (x0 : bytes_Cursor) (x1 : GoErr) : Option bytes_Cursor :=
  (letJ (α := Bool → Option bytes_Cursor) (fun (x33 : Bool) => (bif x33 then (some (⟨x0.b', x0.at', (GoErr.spot x0.at' x1)⟩ : bytes_Cursor)) else (some x0))) fun (j35 : Bool → Option bytes_Cursor) => (if x0.err' = GoErr.nil then (if x1 = GoErr.nil then (j35 false) else (j35 true)) else (j35 false)))

theorem bytes_Cursor_Fail.calls {B I : Gh} {h : Heap} {x0 : bytes_Cursor} {x1 : GoErr} {b0 : Nat} {v21 : Value} {v22 : Value} {v24 : Value} {r : bytes_Cursor} (H : bytes_Cursor_Fail.m x0 x1 = some r)  :
    Fc Tryd.prog 25 #[.pointer (some ⟨b0, 0, none⟩), v24] [rB b0 [v21, .int .i64 x0.at', v22] 62, rE .i v22 x0.err', rE .i v24 x1] B I h (fun v L => ∃ (v43 : Value), v = .tuple #[] ∧ L = [rB b0 [v21, .int .i64 r.at', v43] 62, rE .i v43 r.err']) := by
 refine fc_of fun E hs => ?_
 unfold bytes_Cursor_Fail.m at H
 refine fn_of (args := [.pointer (some ⟨b0, 0, none⟩), v24]) (rs := []) (N := 24) Tryd.func25 rfl rfl rfl rfl ?_
 refine st 1 [] ?_
 obtain ⟨j35, e42, H⟩ := letJ_some H
 refine k_join (fun ρ h => ∃ (x33 : Bool) (v32 : Value) (v34 : Value) (I : Gh), j35 x33 = some r ∧ Fits [(0, .pointer (some ⟨b0, 0, none⟩)), (1, v32), (12, .bool x33)] ρ ∧ St E [rE .i v32 x1, rE .i v34 x0.err', rB b0 [v21, .int .i64 x0.at', v34] 62] I h) ?_ ?_
 ·refine st 4 [] (k_op (lB (hs.bl d0) 2 rfl ?_))
  rcases (hs.er d1).cases with ⟨c26, rfl⟩ | ⟨c26, t27, u28, rfl⟩
  ·rw [if_pos c26] at H
   rcases (hs.er d2).cases with ⟨c29, rfl⟩ | ⟨c29, t30, u31, rfl⟩
   ·rw [if_pos c29] at H
    refine st 6 [] ?_
    exact k_end ⟨false, .nilIface, .nilIface, I, H, ⟨by kernel_rfl, by kernel_rfl, by kernel_rfl, trivial⟩, hs.pk (.c d2 (.c d1 (.c d0 .n)))⟩
   ·rw [if_neg c29] at H
    refine st 6 [] ?_
    exact k_end ⟨true, (.iface t30 u31), .nilIface, I, H, ⟨by kernel_rfl, by kernel_rfl, by kernel_rfl, trivial⟩, hs.pk (.c d2 (.c d1 (.c d0 .n)))⟩
  ·rw [if_neg c26] at H
   refine st 6 [] ?_
   exact k_end ⟨false, v24, (.iface t27 u28), I, H, ⟨by kernel_rfl, by kernel_rfl, by kernel_rfl, trivial⟩, hs.pk (.c d2 (.c d1 (.c d0 .n)))⟩
 ·clear H
  rintro ρ h ⟨x33, v32, v34, I, H, hf, hs⟩
  refine k_fits _ hf ?_ rfl
  subst e42
  try dsimp only at H
  cases x33
  ·rw [cond_false] at H
   refine st 2 [false] ?_
   refine k_fin ?_
   obtain rfl := Option.some.inj H
   exact ⟨_, by kernel_rfl, I, _, ⟨(v34), rfl, rfl⟩, hs.pk (.c d2 (.c d1 .n))⟩
  ·rw [cond_true] at H
   refine st 6 [true] (k_op (lB (hs.bl d2) 1 rfl ?_))
   rcases (hs.er d0).cases with ⟨c36, rfl⟩ | ⟨c36, t37, u38, rfl⟩
   ·refine st 2 [] (k_op (nB hs [.int .i64 x0.at', .nilIface] ?_))
    intro b39 h hs
    have q40 := (hs.er d1)
    obtain ⟨I, hs⟩ := hs.fS q40
    refine st 3 [] (k_op (sB (v := (.iface 78 (.pointer (some ⟨b39, 0, none⟩)))) (hs.f d3) cw2 ?_))
    intro h hs
    refine st 1 [] ?_
    refine k_fin ?_
    obtain rfl := Option.some.inj H
    exact ⟨_, by kernel_rfl, I, _, ⟨((.iface 78 (.pointer (some ⟨b39, 0, none⟩)))), rfl, rfl⟩, hs.pk (.c d0 (.c d0 .n))⟩
   ·refine st 2 [] (k_op (nB hs [.int .i64 x0.at', (.iface t37 u38)] ?_))
    intro b39 h hs
    have q40 := (hs.er d1)
    obtain ⟨I, hs⟩ := hs.fS q40
    refine st 3 [] (k_op (sB (v := (.iface 78 (.pointer (some ⟨b39, 0, none⟩)))) (hs.f d3) cw2 ?_))
    intro h hs
    refine st 1 [] ?_
    refine k_fin ?_
    obtain rfl := Option.some.inj H
    exact ⟨_, by kernel_rfl, I, _, ⟨((.iface 78 (.pointer (some ⟨b39, 0, none⟩)))), rfl, rfl⟩, hs.pk (.c d0 (.c d0 .n))⟩

/-! (*shutter/bytes.Cursor).Take -/
def bytes_Cursor_Take.m (x0 : bytes_Cursor) (x1 : Int) : Option ((List Int) × bytes_Cursor) :=
  (letJ (α := (List Int) → Int → GoErr → Option ((List Int) × bytes_Cursor)) (fun (x40 : List Int) (x45 : Int) (x46 : GoErr) => (if x46 = GoErr.nil then (if 0 ≤ (w64 ((w64 (x45 + x1)) - x1)) then (if (w64 ((w64 (x45 + x1)) - x1)) ≤ (w64 (x45 + x1)) then (if (w64 (x45 + x1)) ≤ (x40.length : Int) then ((slices_Clone_bytes.m (sub x40 (w64 ((w64 (x45 + x1)) - x1)) (w64 (x45 + x1)))).bind fun t56 => (some (t56, (⟨x40, (w64 (x45 + x1)), x46⟩ : bytes_Cursor)))) else none) else none) else none) else (some ([], (⟨x40, x45, x46⟩ : bytes_Cursor))))) fun (j49 : (List Int) → Int → GoErr → Option ((List Int) × bytes_Cursor)) => (if x1 < 0 then ((bytes_Cursor_Fail.m x0 (GoErr.no 2)).bind fun t28 => (j49 x0.b' t28.at' t28.err')) else ((bytes_Cursor_Left.m x0).bind fun t31 => (if x1 > t31.1 then ((bytes_Cursor_Fail.m (⟨t31.2.b', t31.2.at', x0.err'⟩ : bytes_Cursor) (GoErr.no 2)).bind fun t37 => (j49 t31.2.b' t37.at' t37.err')) else (j49 t31.2.b' t31.2.at' x0.err')))))

theorem bytes_Cursor_Take.calls {B I : Gh} {h : Heap} {x0 : bytes_Cursor} {x1 : Int} {b0 : Nat} {a21 : Option Addr} {p22 : Nat} {n23 : Nat} {v25 : Value} {r : ((List Int) × bytes_Cursor)} (H : bytes_Cursor_Take.m x0 x1 = some r)  :
    Fc Tryd.prog 7 #[.pointer (some ⟨b0, 0, none⟩), .int .i64 x1] [rB b0 [.slice a21 n23 p22, .int .i64 x0.at', v25] 62, rR (tInt .u8) .i a21 p22 n23 x0.b', rE .i v25 x0.err'] B I h (fun v L => ∃ (a62 : Option Addr) (p63 : Nat) (n64 : Nat) (a66 : Option Addr) (p67 : Nat) (n68 : Nat) (v70 : Value), v = .slice a62 n64 p63 ∧ L = [rO (tInt .u8) .i a62 p63 n64 r.1, rB b0 [.slice a66 n68 p67, .int .i64 r.2.at', v70] 62, rR (tInt .u8) .i a66 p67 n68 r.2.b', rE .i v70 r.2.err']) := by
 refine fc_of fun E hs => ?_
 unfold bytes_Cursor_Take.m at H
 obtain rfl := hs.nR d1
 refine fn_of (args := [.pointer (some ⟨b0, 0, none⟩), .int .i64 x1]) (rs := [.tmp 4]) (N := 45) Tryd.func7 rfl rfl rfl rfl ?_
 refine st 5 [] ?_
 obtain ⟨j49, e61, H⟩ := letJ_some H
 refine k_join (fun ρ h => ∃ (x40 : List Int) (x45 : Int) (x46 : GoErr) (a41 : Option Addr) (p42 : Nat) (n43 : Nat) (v47 : Value) (I : Gh), j49 x40 x45 x46 = some r ∧ Fits [(0, .pointer (some ⟨b0, 0, none⟩)), (1, .int .i64 x1)] ρ ∧ St E [rR (tInt .u8) .i a41 p42 n43 x40, rE .i v47 x46, rB b0 [.slice a41 n43 p42, .int .i64 x45, v47] 62] I h) ?_ ?_
 ·refine st 3 [] (k_ite H (fun c27 H => ?_) (fun c27 H => ?_))
  ·obtain ⟨hk, bk⟩ := hs.call tk1 (.c (xK d1) (.c xC .n))
   refine st 11 [true] (k_call H (fun _ m => bytes_Cursor_Fail.calls m hk) ?_)
   rintro t28 _ h H ⟨I, _, ⟨v29, rfl, rfl⟩, hk⟩
   replace hs := bk hk ct2 rfl
   refine st 1 [] ?_
   exact k_end ⟨x0.b', t28.at', t28.err', a21, p22, x0.b'.length, v29, I, H, ⟨by kernel_rfl, by kernel_rfl, trivial⟩, hs.pk (.c d2 (.c d1 (.c d0 .n)))⟩
  ·obtain ⟨hk, bk⟩ := hs.call tk1 (.c (qK d0) .n)
   refine st 3 [] (k_call H (fun _ m => bytes_Cursor_Left.calls m hk) ?_)
   rintro t31 _ h H ⟨I, _, ⟨a32, p33, n34, rfl, rfl⟩, hk⟩
   replace hs := bk hk ct2 rfl
   obtain rfl := hs.nR d1
   refine k_ite H (fun c36 H => ?_) (fun c36 H => ?_)
   ·obtain ⟨hk, bk⟩ := hs.call tk1 (.c (xK d2) (.c xC .n))
    refine st 6 [true] (k_call H (fun _ m => bytes_Cursor_Fail.calls m hk) ?_)
    rintro t37 _ h H ⟨I, _, ⟨v38, rfl, rfl⟩, hk⟩
    replace hs := bk hk ct2 rfl
    refine st 1 [] ?_
    exact k_end ⟨t31.2.b', t37.at', t37.err', a32, p33, t31.2.b'.length, v38, I, H, ⟨by kernel_rfl, by kernel_rfl, trivial⟩, hs.pk (.c d2 (.c d1 (.c d0 .n)))⟩
   ·refine st 4 [false] ?_
    exact k_end ⟨t31.2.b', t31.2.at', x0.err', a32, p33, t31.2.b'.length, v25, I, H, ⟨by kernel_rfl, by kernel_rfl, trivial⟩, hs.pk (.c d1 (.c d2 (.c d0 .n)))⟩
 ·clear H
  rintro ρ h ⟨x40, x45, x46, a41, p42, n43, v47, I, H, hf, hs⟩
  refine k_fits _ hf ?_ rfl
  subst e61
  try dsimp only at H
  obtain rfl := hs.nR d0
  refine st 6 [] (k_op (lB (hs.bl d2) 2 rfl ?_))
  rcases (hs.er d1).cases with ⟨c50, rfl⟩ | ⟨c50, t51, u52, rfl⟩
  ·rw [if_pos c50] at H
   refine st 9 [false] (k_op (lB (hs.bl d2) 1 rfl ?_))
   refine st 4 [] (k_op (sB (v := .int .i64 (w64 (x45 + x1))) (hs.f d2) cw1 ?_))
   intro h hs
   refine st 2 [] ?_
   obtain ⟨hs0, bk0⟩ := hs.call tk0 (.c (qL d0) (.c (qK d1) .n))
   have hs := hs0
   refine k_regD hs0 17 ?_
   refine aRun [0, 1, 2] 14 hs.keep ?_
   refine aL 3 rfl hs.keep (ll hs0 d0 (n := 0) rfl) (nmL hs0 d0) ?_
   refine aRun [4, 5, 6] 10 hs.keep ?_
   refine aL 7 rfl hs.keep (ll hs0 d0 (n := 1) rfl) (nmL hs0 d0) ?_
   refine aRun [8, 9, 10, 11, 12] 4 hs.keep ?_
   refine aL 13 rfl hs.keep (ll hs0 d0 (n := 1) rfl) (nmL hs0 d0) ?_
   obtain ⟨c53, H⟩ := guard_pos H
   obtain ⟨c54, H⟩ := guard_pos H
   obtain ⟨c55, H⟩ := guard_pos H
   refine aP 14 (.slice (slA a41 p42 (Int.toNat (w64 ((w64 (x45 + x1)) - x1))) 1) ((sub x40 (w64 ((w64 (x45 + x1)) - x1)) (w64 (x45 + x1))).length) (p42 - Int.toNat (w64 ((w64 (x45 + x1)) - x1)))) rfl (pS (e := 5) (k1 := .i64) (k2 := .i64) (hs.sR d1) c53 c54 c55) hs.keep ?_
   obtain ⟨hk, bk⟩ := hs.call tk0 (.c (qP (qI d1) (lo := (w64 ((w64 (x45 + x1)) - x1))) (hi := (w64 (x45 + x1))) c53 c54 c55) .n)
   refine aO1 15 rfl (o_call H (fun _ m => slices_Clone_bytes.calls m hk) ?_)
   rintro t56 _ h H ⟨I, _, ⟨a57, p58, n59, rfl, rfl⟩, hk⟩
   replace hs := bk hk ct1 rfl
   obtain rfl := hs.nO d0
   refine ⟨hs.keep, ?_⟩
   refine aRun [16] 0 hs.keep ?_
   replace hs := hs.pk (.c d0 .n)
   replace hs := bk0 hs ct1 rfl
   refine aEnd ?_
   refine k_retQ ?_
   obtain rfl := Option.some.inj H
   exact ⟨_, by kernel_rfl, I, _, ⟨a57, p58, t56.length, a41, p42, x40.length, (.nilIface), rfl, rfl⟩, hs.pk (.c d0 (.c d0 (.c d0 (.c d0 .n))))⟩
  ·rw [if_neg c50] at H
   refine st 7 [true] ?_
   refine k_retQ ?_
   obtain rfl := Option.some.inj H
   exact ⟨_, by kernel_rfl, I, _, ⟨none, 0, 0, a41, p42, x40.length, ((.iface t51 u52)), rfl, rfl⟩, hs.pk (.f imON (.c d2 (.c d0 (.c d0 .n))))⟩

/-! shutter/attr.Char -/
def attr_Char.m (x0 : Int) : Option Bool :=
  (if x0 = 0 then (some true) else (if x0 = 28 then (some true) else (if x0 = 30 then (some true) else (if x0 ≥ 64 then (some (x0 != 255)) else (some false)))))

theorem attr_Char.calls {x0 : Int} {h : Heap} {r : Bool} (H : attr_Char.m x0 = some r)   :
    Ret Tryd.prog 37 #[.int .u8 x0] h (fun v h' => .bool r = v ∧ h' = h) := by
 unfold attr_Char.m at H
 refine fn_of (args := [.int .u8 x0]) (rs := [.tmp 2]) (N := 15) Tryd.func37 rfl rfl rfl rfl ?_
 refine st 17 [] (k_ite H (fun c21 H => ?_) (fun c21 H => ?_))
 ·refine st 10 [true] ?_
  refine k_retQ ?_
  obtain rfl := Option.some.inj H
  exact ⟨_, by kernel_rfl, rfl, rfl⟩
 ·refine st 7 [false] (k_ite H (fun c22 H => ?_) (fun c22 H => ?_))
  ·refine st 11 [true, true] ?_
   refine k_retQ ?_
   obtain rfl := Option.some.inj H
   exact ⟨_, by kernel_rfl, rfl, rfl⟩
  ·refine st 4 [false] (k_ite H (fun c23 H => ?_) (fun c23 H => ?_))
   ·refine st 9 [true] ?_
    refine k_retQ ?_
    obtain rfl := Option.some.inj H
    exact ⟨_, by kernel_rfl, rfl, rfl⟩
   ·refine st 8 [false] (k_ite H (fun c24 H => ?_) (fun c24 H => ?_))
    ·refine st 6 [] ?_
     refine k_retQ ?_
     obtain rfl := Option.some.inj H
     exact ⟨_, by kernel_rfl, rfl, rfl⟩
    ·refine st 6 [] ?_
     refine k_retQ ?_
     obtain rfl := Option.some.inj H
     exact ⟨_, by kernel_rfl, rfl, rfl⟩

/-! (*shutter/bytes.Cursor).Chars$1 -/
def bytes_Cursor_Chars_1.m (x0 : Int) : Option Bool :=
  ((attr_Char.m x0).bind fun t21 => (some (!t21)))

theorem bytes_Cursor_Chars_1.calls {x0 : Int} {h : Heap} {r : Bool} (H : bytes_Cursor_Chars_1.m x0 = some r)   :
    Ret Tryd.prog 36 #[.int .u8 x0] h (fun v h' => .bool r = v ∧ h' = h) := by
 unfold bytes_Cursor_Chars_1.m at H
 refine fn_of (args := [.int .u8 x0]) (rs := [.tmp 2]) (N := 6) Tryd.func36 rfl rfl rfl rfl ?_
 refine st 7 [] (k_call H (fun _ m => attr_Char.calls m) ?_)
 rintro t21 _ _ H ⟨rfl, rfl⟩
 refine st 3 [] ?_
 refine k_retQ ?_
 obtain rfl := Option.some.inj H
 exact ⟨_, by kernel_rfl, rfl, rfl⟩

/-! slices.IndexFunc[[]byte,byte] -/
def slices_IndexFunc_bytes__bytes_Cursor_Chars_1.l1.m (K : Nat) (x0 : (List Int)) : Nat → Int → Option (Int ⊕ (Unit))
  | 0, _ => none
  | k + 1, x26 => (letJ (α := Bool → Option (Int ⊕ (Unit))) (fun (x31 : Bool) => (bif x31 then (if 0 ≤ x26 then (if x26 < (x0.length : Int) then ((bytes_Cursor_Chars_1.m (at_ x0 x26)).bind fun t35 => bif t35 then (some (Sum.inl x26)) else (slices_IndexFunc_bytes__bytes_Cursor_Chars_1.l1.m K x0 k (w64 (x26 + 1)))) else none) else none) else (some (Sum.inr ())))) fun (j32 : Bool → Option (Int ⊕ (Unit))) => (if x26 < (x0.length : Int) then (j32 true) else (j32 false)))
def slices_IndexFunc_bytes__bytes_Cursor_Chars_1.m (K : Nat) (x0 : (List Int)) : Option Int :=
  ((slices_IndexFunc_bytes__bytes_Cursor_Chars_1.l1.m K x0 K 0).bind fun s27 => match s27 with | .inl q => (some q) | .inr _ => (some (-1)))

theorem slices_IndexFunc_bytes__bytes_Cursor_Chars_1.calls {G : Gh} {K : Nat} {x0 : (List Int)} {a21 : Option Addr} {p22 : Nat} {n23 : Nat} {h : Heap} {r : Int} (H : slices_IndexFunc_bytes__bytes_Cursor_Chars_1.m K x0 = some r)  (s25 : Sn (tInt .u8) G h a21 p22 n23 x0) :
    Ret Tryd.prog 35 #[.slice a21 n23 p22, .func (.func 36) #[] #[]] h (fun v h' => .int .i64 r = v ∧ h' = h) := by
 unfold slices_IndexFunc_bytes__bytes_Cursor_Chars_1.m at H
 obtain rfl := s25.len.symm
 refine fn_of (args := [.slice a21 x0.length p22, .func (.func 36) #[] #[]]) (rs := [.tmp 4]) (N := 19) Tryd.func35 rfl rfl rfl rfl ?_
 refine st 12 [] ?_
 obtain ⟨s27, m29, HR28⟩ := bind_some H
 refine k_loop 0 (fun k' ρ h1 => ∃ (x26 : Int), slices_IndexFunc_bytes__bytes_Cursor_Chars_1.l1.m K x0 k' x26 = some s27 ∧ Fits [(0, .slice a21 x0.length p22), (1, .func (.func 36) #[] #[]), (7, .int .i64 (x0.length : Int)), (8, .int .i64 x26)] ρ ∧ h = h1) (fun ρ h1 => Sum.inr () = s27 ∧ Fits [] ρ ∧ h = h1) K ⟨0, m29, ⟨by kernel_rfl, by kernel_rfl, by kernel_rfl, by kernel_rfl, trivial⟩, rfl⟩ ?_ rfl ?_
 ·clear m29 H
  rintro k' ρ h1 ⟨x26, H, hf, rfl⟩
  cases k' with
  | zero => cases H
  | succ k =>
   rw [slices_IndexFunc_bytes__bytes_Cursor_Chars_1.l1.m] at H
   refine k_fits _ hf ?_ rfl
   refine st 1 [] ?_
   obtain ⟨j32, e36, H⟩ := letJ_some H
   refine k_join (fun ρ h1 => ∃ (x31 : Bool), j32 x31 = some s27 ∧ Fits [(0, .slice a21 x0.length p22), (1, .func (.func 36) #[] #[]), (7, .int .i64 (x0.length : Int)), (8, .int .i64 x26), (9, .bool x31)] ρ ∧ h = h1) ?_ ?_
   ·refine st 1 [] (k_ite H (fun c30 H => ?_) (fun c30 H => ?_))
    ·refine st 1 [] ?_
     exact k_end ⟨true, H, ⟨by kernel_rfl, by kernel_rfl, by kernel_rfl, by kernel_rfl, by kernel_rfl, trivial⟩, rfl⟩
    ·refine st 1 [] ?_
     exact k_end ⟨false, H, ⟨by kernel_rfl, by kernel_rfl, by kernel_rfl, by kernel_rfl, by kernel_rfl, trivial⟩, rfl⟩
   ·clear H
    rintro ρ h1 ⟨x31, H, hf, rfl⟩
    refine k_fits _ hf ?_ rfl
    subst e36
    try dsimp only at H
    cases x31
    ·rw [cond_false] at H
     refine st 2 [false] ?_
     refine k_out rfl ?_
     obtain rfl := Option.some.inj H
     exact xE ⟨rfl, trivial, rfl⟩
    ·rw [cond_true] at H
     obtain ⟨c33, H⟩ := guard_pos H
     obtain ⟨c34, H⟩ := guard_pos H
     refine st 15 [true] (k_val (elemPtr a21 (x26.toNat * 1)) (pI (e := 5) (ik := .i64) s25 c33 c34) ?_)
     refine k_op (lC (s25.cell1 c33 c34) ?_)
     refine k_call H (fun _ m => bytes_Cursor_Chars_1.calls m) ?_
     rintro t35 _ _ H ⟨rfl, rfl⟩
     cases t35
     ·rw [cond_false] at H
      refine st 8 [false] ?_
      exact k_endL ⟨k, Nat.lt_succ_self _, (w64 (x26 + 1)), H, ⟨by kernel_rfl, by kernel_rfl, by kernel_rfl, by kernel_rfl, trivial⟩, rfl⟩
     ·rw [cond_true] at H
      refine st 7 [true] ?_
      refine k_retQ (krL ?_)
      obtain rfl := Option.some.inj H
      obtain rfl := Option.some.inj HR28
      exact ⟨_, by kernel_rfl, rfl, rfl⟩
 ·rintro ρ h1 ⟨rfl, hf, rfl⟩
  have H := HR28
  try dsimp only at H
  refine k_fits _ hf ?_ rfl
  refine st 4 [] ?_
  refine k_retQ ?_
  obtain rfl := Option.some.inj H
  exact ⟨_, by kernel_rfl, rfl, rfl⟩

/-! (*shutter/bytes.Cursor).Chars -/
def bytes_Cursor_Chars.m (K : Nat) (x0 : bytes_Cursor) : Option ((List Int) × bytes_Cursor) :=
  (if x0.err' = GoErr.nil then (if 0 ≤ x0.at' then (if x0.at' ≤ (x0.b'.length : Int) then ((slices_IndexFunc_bytes__bytes_Cursor_Chars_1.m K (sub x0.b' x0.at' (x0.b'.length : Int))).bind fun t32 => (if t32 < 0 then ((bytes_Cursor_Left.m x0).bind fun t34 => ((bytes_Cursor_Take.m (⟨t34.2.b', t34.2.at', x0.err'⟩ : bytes_Cursor) t34.1).bind fun t39 => (some (t39.1, t39.2)))) else ((bytes_Cursor_Take.m x0 t32).bind fun t50 => (some (t50.1, t50.2))))) else none) else none) else (some ([], x0)))

theorem bytes_Cursor_Chars.calls {B I : Gh} {h : Heap} {K : Nat} {x0 : bytes_Cursor} {b0 : Nat} {a21 : Option Addr} {p22 : Nat} {n23 : Nat} {v25 : Value} {r : ((List Int) × bytes_Cursor)} (H : bytes_Cursor_Chars.m K x0 = some r)  :
    Fc Tryd.prog 17 #[.pointer (some ⟨b0, 0, none⟩)] [rB b0 [.slice a21 n23 p22, .int .i64 x0.at', v25] 62, rR (tInt .u8) .i a21 p22 n23 x0.b', rE .i v25 x0.err'] B I h (fun v L => ∃ (a61 : Option Addr) (p62 : Nat) (n63 : Nat) (a65 : Option Addr) (p66 : Nat) (n67 : Nat) (v69 : Value), v = .slice a61 n63 p62 ∧ L = [rO (tInt .u8) .i a61 p62 n63 r.1, rB b0 [.slice a65 n67 p66, .int .i64 r.2.at', v69] 62, rR (tInt .u8) .i a65 p66 n67 r.2.b', rE .i v69 r.2.err']) := by
 refine fc_of fun E hs => ?_
 unfold bytes_Cursor_Chars.m at H
 obtain rfl := hs.nR d1
 refine fn_of (args := [.pointer (some ⟨b0, 0, none⟩)]) (rs := [.tmp 2]) (N := 26) Tryd.func17 rfl rfl rfl rfl ?_
 refine st 10 [] (k_op (lB (hs.bl d0) 2 rfl ?_))
 rcases (hs.er d2).cases with ⟨c27, rfl⟩ | ⟨c27, t28, u29, rfl⟩
 ·rw [if_pos c27] at H
  refine st 5 [false] ?_
  obtain ⟨hs0, bk0⟩ := hs.call tk0 (.c (qL d0) (.c (qK d1) .n))
  have hs := hs0
  refine k_regD hs0 11 ?_
  refine aRun [0, 1, 2] 8 hs.keep ?_
  refine aL 3 rfl hs.keep (ll hs0 d0 (n := 0) rfl) (nmL hs0 d0) ?_
  refine aRun [4, 5, 6] 4 hs.keep ?_
  refine aL 7 rfl hs.keep (ll hs0 d0 (n := 1) rfl) (nmL hs0 d0) ?_
  obtain ⟨c30, H⟩ := guard_pos H
  obtain ⟨c31, H⟩ := guard_pos H
  refine aP 8 (.slice (slA a21 p22 (Int.toNat x0.at') 1) ((sub x0.b' x0.at' (x0.b'.length : Int)).length) (p22 - Int.toNat x0.at')) rfl (pSl (e := 5) (k1 := .i64) (hs.sR d1) c30 c31 (Int.le_refl _)) hs.keep ?_
  refine aO1 9 rfl (o_call H (fun _ m => slices_IndexFunc_bytes__bytes_Cursor_Chars_1.calls m (Sn.part (hs.sR d1) (lo := x0.at') (hi := (x0.b'.length : Int)) c30 c31 (Int.le_refl _))) ?_)
  rintro t32 _ _ H ⟨rfl, rfl⟩
  refine ⟨hs.keep, ?_⟩
  refine aRun [10] 0 hs.keep ?_
  replace hs := hs.pk .n
  replace hs := bk0 hs ct0 rfl
  refine aEnd ?_
  refine st 4 [] (k_ite H (fun c33 H => ?_) (fun c33 H => ?_))
  ·obtain ⟨hk, bk⟩ := hs.call tk1 (.c (qK d0) .n)
   refine st 4 [true] (k_call H (fun _ m => bytes_Cursor_Left.calls m hk) ?_)
   rintro t34 _ h H ⟨I, _, ⟨a35, p36, n37, rfl, rfl⟩, hk⟩
   replace hs := bk hk ct2 rfl
   obtain rfl := hs.nR d1
   obtain ⟨hk, bk⟩ := hs.call tk1 (.c (qK d0) (.c (xK d2) .n))
   refine st 6 [] (k_call H (fun _ m => bytes_Cursor_Take.calls m hk) ?_)
   rintro t39 _ h H ⟨I, _, ⟨a40, p41, n42, a44, p45, n46, v48, rfl, rfl⟩, hk⟩
   replace hs := bk hk ct4 rfl
   obtain rfl := hs.nO d0
   obtain rfl := hs.nR d2
   refine st 2 [] ?_
   refine k_retQ ?_
   obtain rfl := Option.some.inj H
   exact ⟨_, by kernel_rfl, I, _, ⟨a40, p41, t39.1.length, a44, p45, t39.2.b'.length, (v48), rfl, rfl⟩, hs.pk (.c d0 (.c d0 (.c d0 (.c d0 .n))))⟩
  ·obtain ⟨hk, bk⟩ := hs.call tk1 (.c (qK d0) (.c (xK d1) .n))
   refine st 7 [false] (k_call H (fun _ m => bytes_Cursor_Take.calls m hk) ?_)
   rintro t50 _ h H ⟨I, _, ⟨a51, p52, n53, a55, p56, n57, v59, rfl, rfl⟩, hk⟩
   replace hs := bk hk ct4 rfl
   obtain rfl := hs.nO d0
   obtain rfl := hs.nR d2
   refine st 2 [] ?_
   refine k_retQ ?_
   obtain rfl := Option.some.inj H
   exact ⟨_, by kernel_rfl, I, _, ⟨a51, p52, t50.1.length, a55, p56, t50.2.b'.length, (v59), rfl, rfl⟩, hs.pk (.c d0 (.c d0 (.c d0 (.c d0 .n))))⟩
 ·rw [if_neg c27] at H
  refine st 7 [true] ?_
  refine k_retQ ?_
  obtain rfl := Option.some.inj H
  exact ⟨_, by kernel_rfl, I, _, ⟨none, 0, 0, a21, p22, x0.b'.length, ((.iface t28 u29)), rfl, rfl⟩, hs.pk (.f imON (.c d0 (.c d0 (.c d0 .n))))⟩

/-! (*shutter/bytes.Cursor).Byte -/
def bytes_Cursor_Byte.m (x0 : bytes_Cursor) : Option (Int × bytes_Cursor) :=
  ((bytes_Cursor_Take.m x0 1).bind fun t27 => (if (t27.1.length : Int) = 0 then (some (0, t27.2)) else (if 0 < (t27.1.length : Int) then (some ((at_ t27.1 0), t27.2)) else none)))

theorem bytes_Cursor_Byte.calls {B I : Gh} {h : Heap} {x0 : bytes_Cursor} {b0 : Nat} {a21 : Option Addr} {p22 : Nat} {n23 : Nat} {v25 : Value} {r : (Int × bytes_Cursor)} (H : bytes_Cursor_Byte.m x0 = some r)  :
    Fc Tryd.prog 18 #[.pointer (some ⟨b0, 0, none⟩)] [rB b0 [.slice a21 n23 p22, .int .i64 x0.at', v25] 62, rR (tInt .u8) .i a21 p22 n23 x0.b', rE .i v25 x0.err'] B I h (fun v L => ∃ (a40 : Option Addr) (p41 : Nat) (n42 : Nat) (v44 : Value), v = .int .u8 r.1 ∧ L = [rB b0 [.slice a40 n42 p41, .int .i64 r.2.at', v44] 62, rR (tInt .u8) .i a40 p41 n42 r.2.b', rE .i v44 r.2.err']) := by
 refine fc_of fun E hs => ?_
 unfold bytes_Cursor_Byte.m at H
 obtain rfl := hs.nR d1
 refine fn_of (args := [.pointer (some ⟨b0, 0, none⟩)]) (rs := [.tmp 2]) (N := 12) Tryd.func18 rfl rfl rfl rfl ?_
 obtain ⟨hk, bk⟩ := hs.call tk1 (.c (qK d0) (.c (xK d1) .n))
 refine st 7 [] (k_call H (fun _ m => bytes_Cursor_Take.calls m hk) ?_)
 rintro t27 _ h H ⟨I, _, ⟨a28, p29, n30, a32, p33, n34, v36, rfl, rfl⟩, hk⟩
 replace hs := bk hk ct4 rfl
 obtain rfl := hs.nO d0
 obtain rfl := hs.nR d2
 refine st 7 [] (k_ite H (fun c38 H => ?_) (fun c38 H => ?_))
 ·refine st 6 [true] ?_
  refine k_retQ ?_
  obtain rfl := Option.some.inj H
  exact ⟨_, by kernel_rfl, I, _, ⟨a32, p33, t27.2.b'.length, (v36), rfl, rfl⟩, hs.pk (.c d1 (.c d1 (.c d1 .n)))⟩
 ·obtain ⟨c39, H⟩ := guard_pos H
  refine st 6 [false] (k_val (elemPtr a28 ((0 : Int).toNat * 1)) (pI (e := 5) (ik := .i64) (hs.sO d0) (by decide) c39) ?_)
  refine k_op (lC ((hs.sO d0).cell1 (by decide) c39) ?_)
  refine st 2 [] ?_
  refine k_retQ ?_
  obtain rfl := Option.some.inj H
  exact ⟨_, by kernel_rfl, I, _, ⟨a32, p33, t27.2.b'.length, (v36), rfl, rfl⟩, hs.pk (.c d1 (.c d1 (.c d1 .n)))⟩

/-! shutter/api.Code -/
def api_Code.m (x0 : GoErr) : Option Int := some (codeOf x0)
theorem api_Code.calls {B I : Gh} {h : Heap} {x0 : GoErr} {v1 : Value} {r : Int} (H : api_Code.m x0 = some r) : Fc Tryd.prog 19 #[v1] [rE .b v1 x0, rG] B I h (fun v L => v = .int .i64 r ∧ L = []) :=
  Code_fc (Option.some.inj H)

/-! (*shutter/bytes.Cursor).Err -/
def bytes_Cursor_Err.m (x0 : bytes_Cursor) : Option (GoErr × bytes_Cursor) :=
  (some (x0.err', x0))

theorem bytes_Cursor_Err.calls {B I : Gh} {h : Heap} {x0 : bytes_Cursor} {b0 : Nat} {v21 : Value} {v22 : Value} {r : (GoErr × bytes_Cursor)} (H : bytes_Cursor_Err.m x0 = some r)  :
    Fc Tryd.prog 20 #[.pointer (some ⟨b0, 0, none⟩)] [rB b0 [v21, .int .i64 x0.at', v22] 62, rE .i v22 x0.err'] B I h (fun v L => ∃ (v25 : Value) (v27 : Value), v = v25 ∧ L = [rE .i v25 r.1, rB b0 [v21, .int .i64 r.2.at', v27] 62, rE .i v27 r.2.err']) := by
 refine fc_of fun E hs => ?_
 unfold bytes_Cursor_Err.m at H
 refine fn_of (args := [.pointer (some ⟨b0, 0, none⟩)]) (rs := [.tmp 2]) (N := 7) Tryd.func20 rfl rfl rfl rfl ?_
 refine st 9 [] (k_op (lB (hs.bl d0) 2 rfl ?_))
 refine st 2 [] ?_
 replace hs := hs.dup d1 (fun _ x => x)
 refine k_retQ ?_
 obtain rfl := Option.some.inj H
 exact ⟨_, by kernel_rfl, I, _, ⟨(v22), (v22), rfl, rfl⟩, hs.pk (.c d2 (.c d1 (.c d0 .n)))⟩

/-! shutter/api.Where -/
def api_Where.m (x0 : GoErr) : Option Int := some (whereOf x0)
theorem api_Where.calls {B I : Gh} {h : Heap} {x0 : GoErr} {v1 : Value} {r : Int} (H : api_Where.m x0 = some r) : Fc Tryd.prog 21 #[v1] [rE .b v1 x0, rG] B I h (fun v L => v = .int .i64 r ∧ L = []) :=
  Where_fc (Option.some.inj H)

/-! (*shutter/bytes.Cursor).At -/
def bytes_Cursor_At.m (x0 : bytes_Cursor) : Option (Int × bytes_Cursor) :=
  (some (x0.at', x0))

theorem bytes_Cursor_At.calls {B I : Gh} {h : Heap} {x0 : bytes_Cursor} {b0 : Nat} {v21 : Value} {v22 : Value} {r : (Int × bytes_Cursor)} (H : bytes_Cursor_At.m x0 = some r)  :
    Fc Tryd.prog 22 #[.pointer (some ⟨b0, 0, none⟩)] [rB b0 [v21, .int .i64 x0.at', v22] 62] B I h (fun v L => v = .int .i64 r.1 ∧ L = [rB b0 [v21, .int .i64 r.2.at', v22] 62]) := by
 refine fc_of fun E hs => ?_
 unfold bytes_Cursor_At.m at H
 refine fn_of (args := [.pointer (some ⟨b0, 0, none⟩)]) (rs := [.tmp 2]) (N := 7) Tryd.func22 rfl rfl rfl rfl ?_
 refine st 9 [] (k_op (lB (hs.bl d0) 1 rfl ?_))
 refine st 2 [] ?_
 refine k_retQ ?_
 obtain rfl := Option.some.inj H
 exact ⟨_, by kernel_rfl, I, _, ⟨rfl, rfl⟩, hs.pk (.c d0 .n)⟩

/-! shutter/shutterlaw06.awake -/
def shutterlaw06_awake.m (K : Nat)  : Option Bool :=
  ((bytes_New.m [64, 193, 17]).bind fun t23 => ((bytes_Cursor_Chars.m K t23).bind fun t31 => ((bytes_Cursor_Byte.m t31.2).bind fun t42 => ((bytes_Cursor_Byte.m t42.2).bind fun t49 => (if (t31.1.length : Int) = 2 then (if 1 < (t31.1.length : Int) then (if (at_ t31.1 1) = 193 then (if t42.1 = 17 then (if t49.1 = 0 then ((bytes_Cursor_Err.m t49.2).bind fun t61 => ((api_Code.m t61.1).bind fun t66 => (if t66 = 2 then ((bytes_Cursor_Err.m (⟨t49.2.b', t61.2.at', t61.2.err'⟩ : bytes_Cursor)).bind fun t68 => ((api_Where.m t68.1).bind fun t73 => (if t73 = 3 then ((bytes_Cursor_At.m (⟨t49.2.b', t68.2.at', t68.2.err'⟩ : bytes_Cursor)).bind fun t75 => (some (t75.1 == 3))) else (some false)))) else (some false)))) else (some false)) else (some false)) else (some false)) else none) else (some false))))))

theorem shutterlaw06_awake.calls {B I : Gh} {h : Heap} {K : Nat} {r : Bool} (H : shutterlaw06_awake.m K = some r)  :
    Fc Tryd.prog 5 #[] [rG] B I h (fun v L => v = .bool r ∧ L = []) := by
 refine fc_of fun E hs => ?_
 unfold shutterlaw06_awake.m at H
 refine fn_of (args := []) (rs := [.tmp 0]) (N := 49) Tryd.func5 rfl rfl rfl rfl ?_
 refine st 6 [] (k_op (nS (e := 5) hs .i (tInt .u8) ([64, 193, 17] : List Int) [.int .u8 64, .int .u8 193, .int .u8 17] 1 (.int .u8 0) (Reps.int (I := (Cl.G .i E.B I)) (k := .u8) (l := [64, 193, 17])) ?_))
 intro b21 h hs
 obtain ⟨hk, bk⟩ := hs.call tk0 (.c (qO d0) .n)
 refine k_call H (fun _ m => bytes_New.calls m hk) ?_
 rintro t23 _ h H ⟨I, _, ⟨b24, a25, p26, n27, v29, rfl, rfl⟩, hk⟩
 replace hs := bk hk ct3 rfl
 obtain rfl := hs.nR d1
 obtain ⟨hk, bk⟩ := hs.call tk1 (.c (qK d0) (.c (xK d1) .n))
 refine st 13 [false] (k_call H (fun _ m => bytes_Cursor_Chars.calls m hk) ?_)
 rintro t31 _ h H ⟨I, _, ⟨a32, p33, n34, a36, p37, n38, v40, rfl, rfl⟩, hk⟩
 replace hs := bk hk ct4 rfl
 obtain rfl := hs.nO d0
 obtain rfl := hs.nR d2
 obtain ⟨hk, bk⟩ := (hs.f d1).call tk1 (.c (qK d1) (.c (xK d2) .n))
 refine st 5 [] (k_call H (fun _ m => bytes_Cursor_Byte.calls m hk) ?_)
 rintro t42 _ h H ⟨I, _, ⟨a43, p44, n45, v47, rfl, rfl⟩, hk⟩
 replace hs := bk hk ct3 rfl
 obtain rfl := hs.nR d1
 obtain ⟨hk, bk⟩ := hs.call tk1 (.c (qK d0) (.c (xK d1) .n))
 refine st 5 [] (k_call H (fun _ m => bytes_Cursor_Byte.calls m hk) ?_)
 rintro t49 _ h H ⟨I, _, ⟨a50, p51, n52, v54, rfl, rfl⟩, hk⟩
 replace hs := bk hk ct3 rfl
 obtain rfl := hs.nR d1
 refine st 6 [] (k_ite H (fun c56 H => ?_) (fun c56 H => ?_))
 ·obtain ⟨c57, H⟩ := guard_pos H
  refine st 2 [] (k_val (elemPtr a32 ((1 : Int).toNat * 1)) (pI (e := 5) (ik := .i64) (hs.sO d5) (by decide) c57) ?_)
  refine k_op (lC ((hs.sO d5).cell1 (by decide) c57) ?_)
  refine k_ite H (fun c58 H => ?_) (fun c58 H => ?_)
  ·refine st 3 [] (k_ite H (fun c59 H => ?_) (fun c59 H => ?_))
   ·refine st 3 [] (k_ite H (fun c60 H => ?_) (fun c60 H => ?_))
    ·obtain ⟨hk, bk⟩ := hs.call tk1 (.c (xK d1) .n)
     refine st 3 [] (k_call H (fun _ m => bytes_Cursor_Err.calls m hk) ?_)
     rintro t61 v62 h H ⟨I, _, ⟨_, v64, rfl, rfl⟩, hk⟩
     replace hs := bk hk ct3 rfl
     obtain ⟨hk, bk⟩ := hs.call tk0 (.c (xI d0) (.c (gK d13) .n))
     refine k_call H (fun _ m => api_Code.calls m hk) ?_
     rintro t66 _ h H ⟨I, _, ⟨rfl, rfl⟩, hk⟩
     replace hs := bk hk ct0 rfl
     refine k_ite H (fun c67 H => ?_) (fun c67 H => ?_)
     ·obtain ⟨hk, bk⟩ := (hs.f d1).call tk1 (.c (xK d1) .n)
      refine st 3 [] (k_call H (fun _ m => bytes_Cursor_Err.calls m hk) ?_)
      rintro t68 v69 h H ⟨I, _, ⟨_, v71, rfl, rfl⟩, hk⟩
      replace hs := bk hk ct3 rfl
      obtain ⟨hk, bk⟩ := hs.call tk0 (.c (xI d0) (.c (gK d15) .n))
      refine k_call H (fun _ m => api_Where.calls m hk) ?_
      rintro t73 _ h H ⟨I, _, ⟨rfl, rfl⟩, hk⟩
      replace hs := bk hk ct0 rfl
      refine k_ite H (fun c74 H => ?_) (fun c74 H => ?_)
      ·obtain ⟨hk, bk⟩ := (hs.f d1).call tk1 .n
       refine st 3 [] (k_call H (fun _ m => bytes_Cursor_At.calls m hk) ?_)
       rintro t75 _ h H ⟨I, _, ⟨rfl, rfl⟩, hk⟩
       replace hs := bk hk ct1 rfl
       refine st 4 [] ?_
       refine k_retQ ?_
       obtain rfl := Option.some.inj H
       exact ⟨_, by kernel_rfl, I, _, ⟨rfl, rfl⟩, hs.pk .n⟩
      ·refine st 8 [] ?_
       refine k_retQ ?_
       obtain rfl := Option.some.inj H
       exact ⟨_, by kernel_rfl, I, _, ⟨rfl, rfl⟩, hs.pk .n⟩
     ·refine st 14 [] ?_
      refine k_retQ ?_
      obtain rfl := Option.some.inj H
      exact ⟨_, by kernel_rfl, I, _, ⟨rfl, rfl⟩, hs.pk .n⟩
    ·refine st 20 [] ?_
     refine k_retQ ?_
     obtain rfl := Option.some.inj H
     exact ⟨_, by kernel_rfl, I, _, ⟨rfl, rfl⟩, hs.pk .n⟩
   ·refine st 24 [] ?_
    refine k_retQ ?_
    obtain rfl := Option.some.inj H
    exact ⟨_, by kernel_rfl, I, _, ⟨rfl, rfl⟩, hs.pk .n⟩
  ·refine st 28 [] ?_
   refine k_retQ ?_
   obtain rfl := Option.some.inj H
   exact ⟨_, by kernel_rfl, I, _, ⟨rfl, rfl⟩, hs.pk .n⟩
 ·refine st 33 [] ?_
  refine k_retQ ?_
  obtain rfl := Option.some.inj H
  exact ⟨_, by kernel_rfl, I, _, ⟨rfl, rfl⟩, hs.pk .n⟩

/-! shutter/shutterlaw06.BytesKeeps -/
def shutterlaw06_BytesKeeps.l1.m (K : Nat) : Nat → (List Int) → Int → Option ((List Int))
  | 0, _, _ => none
  | k + 1, x51, x56 => (if x56 < (x51.length : Int) then (if 0 ≤ x56 then (shutterlaw06_BytesKeeps.l1.m K k (x51.set x56.toNat (bXor .u8 (at_ x51 x56) 255)) (w64 (x56 + 1))) else none) else (some (x51)))
def shutterlaw06_BytesKeeps.l2.m (K : Nat) : Nat → (List Int) → Int → Option ((List Int))
  | 0, _, _ => none
  | k + 1, x81, x86 => (if x86 < (x81.length : Int) then (if 0 ≤ x86 then (shutterlaw06_BytesKeeps.l2.m K k (x81.set x86.toNat (bXor .u8 (at_ x81 x86) 255)) (w64 (x86 + 1))) else none) else (some (x81)))
def shutterlaw06_BytesKeeps.m (K : Nat) (x0 : (List Int)) : Option Bool :=
  ((shutterlaw06_awake.m K).bind fun t25 => bif t25 then (if (x0.length : Int) > 300 then ((shutterlaw06_awake.m K).bind fun t27 => (some t27)) else ((app [] x0).bind fun l30 => ((bytes_New.m l30).bind fun t35 => ((bytes_New.m x0).bind fun t43 => ((shutterlaw06_BytesKeeps.l1.m K K l30 0).bind fun x58 => ((bytes_Cursor_Take.m t43 (x0.length : Int)).bind fun t70 => ((shutterlaw06_BytesKeeps.l2.m K K t70.1 0).bind fun x88 => ((bytes_Cursor_Take.m t35 (x0.length : Int)).bind fun t100 => ((shutterref01_Same.m K t100.1 x0).bind fun t111 => bif t111 then ((shutterref01_Same.m K x88 x58).bind fun t112 => (some t112)) else (some false)))))))))) else ((shutterlaw06_awake.m K).bind fun t113 => (some t113)))

theorem shutterlaw06_BytesKeeps.calls {B I : Gh} {h : Heap} {K : Nat} {x0 : (List Int)} {a21 : Option Addr} {p22 : Nat} {n23 : Nat} {r : Bool} (H : shutterlaw06_BytesKeeps.m K x0 = some r)  :
    Fc Tryd.prog 3 #[.slice a21 n23 p22] [rR (tInt .u8) .b a21 p22 n23 x0, rG] B I h (fun v L => v = .bool r ∧ L = []) := by
 refine fc_of fun E hs => ?_
 unfold shutterlaw06_BytesKeeps.m at H
 obtain rfl := hs.nR d0
 refine fn_of (args := [.slice a21 x0.length p22]) (rs := [.tmp 2]) (N := 73) Tryd.func3 rfl rfl rfl rfl ?_
 obtain ⟨hk, bk⟩ := hs.call tk0 (.c (gK d1) .n)
 refine st 7 [] (k_call H (fun _ m => shutterlaw06_awake.calls m hk) ?_)
 rintro t25 _ h H ⟨I, _, ⟨rfl, rfl⟩, hk⟩
 replace hs := bk hk ct0 rfl
 cases t25
 ·rw [cond_false] at H
  obtain ⟨hk, bk⟩ := hs.call tk0 (.c (gK d1) .n)
  refine st 10 [true] (k_call H (fun _ m => shutterlaw06_awake.calls m hk) ?_)
  rintro t113 _ h H ⟨I, _, ⟨rfl, rfl⟩, hk⟩
  replace hs := bk hk ct0 rfl
  refine st 2 [] ?_
  refine k_retQ ?_
  obtain rfl := Option.some.inj H
  exact ⟨_, by kernel_rfl, I, _, ⟨rfl, rfl⟩, hs.pk .n⟩
 ·rw [cond_true] at H
  refine st 4 [] (k_ite H (fun c26 H => ?_) (fun c26 H => ?_))
  ·obtain ⟨hk, bk⟩ := hs.call tk0 (.c (gK d1) .n)
   refine st 5 [true] (k_call H (fun _ m => shutterlaw06_awake.calls m hk) ?_)
   rintro t27 _ h H ⟨I, _, ⟨rfl, rfl⟩, hk⟩
   replace hs := bk hk ct0 rfl
   refine st 2 [] ?_
   refine k_retQ ?_
   obtain rfl := Option.some.inj H
   exact ⟨_, by kernel_rfl, I, _, ⟨rfl, rfl⟩, hs.pk .n⟩
  ·refine st 6 [false] (k_op (nS (e := 5) hs .i (tInt .u8) ([] : List Int) [] 1 (.int .u8 0) (Reps.int (I := (Cl.G .i E.B I)) (k := .u8) (l := [])) ?_))
   intro b28 h hs
   obtain ⟨l30, m31, H⟩ := bind_some H
   refine st 1 [] (k_op (aO (e := 5) (bytes := 1) hs ((hs.sR d1).flat flat_int) m31 ?_))
   intro a32 p33 h hs
   obtain ⟨hk, bk⟩ := hs.call tk0 (.c (qO d0) .n)
   refine st 5 [] (k_call H (fun _ m => bytes_New.calls m hk) ?_)
   rintro t35 _ h H ⟨I, _, ⟨b36, a37, p38, n39, v41, rfl, rfl⟩, hk⟩
   replace hs := bk hk ct3 rfl
   obtain rfl := hs.nR d1
   obtain ⟨hk, bk⟩ := hs.call tk0 (.c (qB d4) .n)
   refine st 5 [] (k_call H (fun _ m => bytes_New.calls m hk) ?_)
   rintro t43 _ h H ⟨I, _, ⟨b44, a45, p46, n47, v49, rfl, rfl⟩, hk⟩
   replace hs := bk hk ct3 rfl
   obtain rfl := hs.nR d1
   refine st 20 [false] ?_
   obtain ⟨s57, m64, HR63⟩ := bind_some H
   refine k_loop 0 (fun k' ρ h => ∃ (x51 : List Int) (x56 : Int) (a52 : Option Addr) (p53 : Nat) (n54 : Nat) (I : Gh), shutterlaw06_BytesKeeps.l1.m K k' x51 x56 = some s57 ∧ Fits [(0, .slice a21 x0.length p22), (3, .slice a52 n54 p53), (4, .pointer (some ⟨b36, 0, none⟩)), (5, .pointer (some ⟨b44, 0, none⟩)), (6, .int .i64 x56)] ρ ∧ St E [rR (tInt .u8) .b a21 p22 x0.length x0, rO (tInt .u8) .i a52 p53 n54 x51, rR (tInt .u8) .i a37 p38 t35.b'.length t35.b', rE .i v41 t35.err', rB b36 [.slice a37 t35.b'.length p38, .int .i64 t35.at', v41] 62, rR (tInt .u8) .i a45 p46 t43.b'.length t43.b', rE .i v49 t43.err', rB b44 [.slice a45 t43.b'.length p46, .int .i64 t43.at', v49] 62, rG] I h) (fun ρ h => ∃ (x58 : List Int) (a59 : Option Addr) (p60 : Nat) (n61 : Nat) (I : Gh), x58 = s57 ∧ Fits [(0, .slice a21 x0.length p22), (3, .slice a59 n61 p60), (4, .pointer (some ⟨b36, 0, none⟩)), (5, .pointer (some ⟨b44, 0, none⟩))] ρ ∧ St E [rR (tInt .u8) .b a21 p22 x0.length x0, rO (tInt .u8) .i a59 p60 n61 x58, rR (tInt .u8) .i a37 p38 t35.b'.length t35.b', rE .i v41 t35.err', rB b36 [.slice a37 t35.b'.length p38, .int .i64 t35.at', v41] 62, rR (tInt .u8) .i a45 p46 t43.b'.length t43.b', rE .i v49 t43.err', rB b44 [.slice a45 t43.b'.length p46, .int .i64 t43.at', v49] 62, rG] I h) K ⟨l30, 0, a32, p33, l30.length, I, m64, ⟨by kernel_rfl, by kernel_rfl, by kernel_rfl, by kernel_rfl, by kernel_rfl, trivial⟩, hs.pk (.c d7 (.c d6 (.c d4 (.c d4 (.c d3 (.c d1 (.c d1 (.c d0 (.c d0 .n)))))))))⟩ ?_ rfl ?_
   ·clear HR63 m64 H
    rintro k' ρ h ⟨x51, x56, a52, p53, n54, I, H, hf, hs⟩
    cases k' with
    | zero => cases H
    | succ k =>
     rw [shutterlaw06_BytesKeeps.l1.m] at H
     refine k_fits _ hf ?_ rfl
     obtain rfl := hs.nO d1
     refine st 6 [] (k_ite H (fun c65 H => ?_) (fun c65 H => ?_))
     ·obtain ⟨c66, H⟩ := guard_pos H
      refine st 10 [true] (k_val (elemPtr a52 (x56.toNat * 1)) (pI (e := 5) (ik := .i64) (hs.sO d1) c66 c65) ?_)
      refine k_op (lC ((hs.sO d1).cell1 c66 c65) ?_)
      refine st 1 [] (k_val (elemPtr a52 (x56.toNat * 1)) (pI (e := 5) (ik := .i64) (hs.sO d1) c66 c65) ?_)
      obtain ⟨y68, g67, q69⟩ := (hs.sO d1).toSl.seg c66 c65
      obtain rfl := rep_int q69
      replace hs := (hs.f d1)
      refine k_op (sE hs 0 [.int .u8 (bXor .u8 (at_ x51 x56) 255)] (bXor .u8 (at_ x51 x56) 255) c66 c65 g67 (ones_of rfl) rfl ?_)
      intro h hs
      refine st 7 [] ?_
      exact k_endL ⟨k, Nat.lt_succ_self _, (x51.set x56.toNat (bXor .u8 (at_ x51 x56) 255)), (w64 (x56 + 1)), a52, p53, x51.length, I, H, ⟨by kernel_rfl, by kernel_rfl, by kernel_rfl, by kernel_rfl, by kernel_rfl, trivial⟩, hs.pk (.c d1 (.c d0 (.c d0 (.c d0 (.c d0 (.c d0 (.c d0 (.c d0 (.c d0 .n)))))))))⟩
     ·refine st 2 [false] ?_
      refine k_out rfl ?_
      obtain rfl := Option.some.inj H
      exact xE ⟨x51, a52, p53, x51.length, I, rfl, ⟨by kernel_rfl, by kernel_rfl, by kernel_rfl, by kernel_rfl, trivial⟩, hs.pk (.c d0 (.c d0 (.c d0 (.c d0 (.c d0 (.c d0 (.c d0 (.c d0 (.c d0 .n)))))))))⟩
   ·rintro ρ h ⟨x58, a59, p60, n61, I, rfl, hf, hs⟩
    have H := HR63
    try dsimp only at H
    refine k_fits _ hf ?_ rfl
    obtain rfl := hs.nO d1
    obtain ⟨hk, bk⟩ := (hs.f d7).call tk1 (.c (qK d5) (.c (xK d6) .n))
    refine st 5 [] (k_call H (fun _ m => bytes_Cursor_Take.calls m hk) ?_)
    rintro t70 _ h H ⟨I, _, ⟨a71, p72, n73, a75, p76, n77, v79, rfl, rfl⟩, hk⟩
    replace hs := bk hk ct4 rfl
    obtain rfl := hs.nO d0
    obtain rfl := hs.nR d2
    refine st 8 [] ?_
    obtain ⟨s87, m94, HR93⟩ := bind_some H
    refine k_loop 2 (fun k' ρ h => ∃ (x81 : List Int) (x86 : Int) (a82 : Option Addr) (p83 : Nat) (n84 : Nat) (I : Gh), shutterlaw06_BytesKeeps.l2.m K k' x81 x86 = some s87 ∧ Fits [(0, .slice a21 x0.length p22), (3, .slice a59 x58.length p60), (4, .pointer (some ⟨b36, 0, none⟩)), (7, .slice a82 n84 p83), (8, .int .i64 x86)] ρ ∧ St E [rR (tInt .u8) .b a21 p22 x0.length x0, rO (tInt .u8) .i a59 p60 x58.length x58, rO (tInt .u8) .i a82 p83 n84 x81, rR (tInt .u8) .i a37 p38 t35.b'.length t35.b', rE .i v41 t35.err', rB b36 [.slice a37 t35.b'.length p38, .int .i64 t35.at', v41] 62, rG] I h) (fun ρ h => ∃ (x88 : List Int) (a89 : Option Addr) (p90 : Nat) (n91 : Nat) (I : Gh), x88 = s87 ∧ Fits [(0, .slice a21 x0.length p22), (3, .slice a59 x58.length p60), (4, .pointer (some ⟨b36, 0, none⟩)), (7, .slice a89 n91 p90)] ρ ∧ St E [rR (tInt .u8) .b a21 p22 x0.length x0, rO (tInt .u8) .i a59 p60 x58.length x58, rO (tInt .u8) .i a89 p90 n91 x88, rR (tInt .u8) .i a37 p38 t35.b'.length t35.b', rE .i v41 t35.err', rB b36 [.slice a37 t35.b'.length p38, .int .i64 t35.at', v41] 62, rG] I h) K ⟨t70.1, 0, a71, p72, t70.1.length, I, m94, ⟨by kernel_rfl, by kernel_rfl, by kernel_rfl, by kernel_rfl, by kernel_rfl, trivial⟩, hs.pk (.c d4 (.c d4 (.c d0 (.c d3 (.c d3 (.c d3 (.c d5 .n)))))))⟩ ?_ rfl ?_
    ·clear HR93 m94 H
     rintro k' ρ h ⟨x81, x86, a82, p83, n84, I, H, hf, hs⟩
     cases k' with
     | zero => cases H
     | succ k =>
      rw [shutterlaw06_BytesKeeps.l2.m] at H
      refine k_fits _ hf ?_ rfl
      obtain rfl := hs.nO d2
      refine st 6 [] (k_ite H (fun c95 H => ?_) (fun c95 H => ?_))
      ·obtain ⟨c96, H⟩ := guard_pos H
       refine st 10 [true] (k_val (elemPtr a82 (x86.toNat * 1)) (pI (e := 5) (ik := .i64) (hs.sO d2) c96 c95) ?_)
       refine k_op (lC ((hs.sO d2).cell1 c96 c95) ?_)
       refine st 1 [] (k_val (elemPtr a82 (x86.toNat * 1)) (pI (e := 5) (ik := .i64) (hs.sO d2) c96 c95) ?_)
       obtain ⟨y98, g97, q99⟩ := (hs.sO d2).toSl.seg c96 c95
       obtain rfl := rep_int q99
       replace hs := (hs.f d2)
       refine k_op (sE hs 0 [.int .u8 (bXor .u8 (at_ x81 x86) 255)] (bXor .u8 (at_ x81 x86) 255) c96 c95 g97 (ones_of rfl) rfl ?_)
       intro h hs
       refine st 7 [] ?_
       exact k_endL ⟨k, Nat.lt_succ_self _, (x81.set x86.toNat (bXor .u8 (at_ x81 x86) 255)), (w64 (x86 + 1)), a82, p83, x81.length, I, H, ⟨by kernel_rfl, by kernel_rfl, by kernel_rfl, by kernel_rfl, by kernel_rfl, trivial⟩, hs.pk (.c d1 (.c d1 (.c d0 (.c d0 (.c d0 (.c d0 (.c d0 .n)))))))⟩
      ·refine st 2 [false] ?_
       refine k_out rfl ?_
       obtain rfl := Option.some.inj H
       exact xE ⟨x81, a82, p83, x81.length, I, rfl, ⟨by kernel_rfl, by kernel_rfl, by kernel_rfl, by kernel_rfl, trivial⟩, hs.pk (.c d0 (.c d0 (.c d0 (.c d0 (.c d0 (.c d0 (.c d0 .n)))))))⟩
    ·rintro ρ h ⟨x88, a89, p90, n91, I, rfl, hf, hs⟩
     have H := HR93
     try dsimp only at H
     refine k_fits _ hf ?_ rfl
     obtain rfl := hs.nO d2
     obtain ⟨hk, bk⟩ := (hs.f d5).call tk1 (.c (qK d3) (.c (xK d4) .n))
     refine st 5 [] (k_call H (fun _ m => bytes_Cursor_Take.calls m hk) ?_)
     rintro t100 _ h H ⟨I, _, ⟨a101, p102, n103, a105, p106, n107, v109, rfl, rfl⟩, hk⟩
     replace hs := bk hk ct4 rfl
     obtain rfl := hs.nO d0
     obtain rfl := hs.nR d2
     refine st 1 [] (k_call H (fun _ m => shutterref01_Same.calls m ((hs.sO d0)).up1 (hs.sR d4)) ?_)
     rintro t111 _ _ H ⟨rfl, rfl⟩
     cases t111
     ·rw [cond_false] at H
      refine st 7 [] ?_
      refine k_retQ ?_
      obtain rfl := Option.some.inj H
      exact ⟨_, by kernel_rfl, I, _, ⟨rfl, rfl⟩, hs.pk .n⟩
     ·rw [cond_true] at H
      refine st 3 [] (k_call H (fun _ m => shutterref01_Same.calls m (hs.sO d6) (hs.sO d5)) ?_)
      rintro t112 _ _ H ⟨rfl, rfl⟩
      refine st 3 [] ?_
      refine k_retQ ?_
      obtain rfl := Option.some.inj H
      exact ⟨_, by kernel_rfl, I, _, ⟨rfl, rfl⟩, hs.pk .n⟩

/-! shutter/read.Image -/
abbrev zA : api_Attr := ⟨false, false, 0, false⟩
abbrev oc (k : Int) (v : Value) (t : api_Attr) (ad : Int) : List Value := [.int .i64 k, v, .bool t.Protected, .bool t.Numeric, .int .i64 t.Show, .bool t.Modified, .int .i64 ad, .int .u8 0]
abbrev oz : Value := .agg #[.int .i64 0, .slice none 0 0, .bool false, .bool false, .int .i64 0, .bool false, .int .i64 0, .int .u8 0]
theorem oc_rep {I : Gh} {h : Heap} (k : Int) (t : api_Attr) (ad : Int) : t_api_Order.rep I h (oc k (.slice none 0 0) t ad) ⟨k, [], t, ad, 0⟩ := ⟨none, 0, 0, rfl, rd_nil _ _ _, rfl⟩
def read_Image.l1.m (K : Nat) (x0 : api_Screen) : Nat → Int → List api_Order → Option (List api_Order)
  | 0, _, _ => none
  | k + 1, i, out => (if i < (x0.Cells.length : Int) then (if 0 ≤ i then (bif (at_ x0.Cells i).Field then ((app out [(⟨2, [], (at_ x0.Cells i).Attr, 0, 0⟩ : api_Order)]).bind fun l => read_Image.l1.m K x0 k (w64 (i + 1)) l)
      else (match out.getLast? with
        | none => none
        | some o => (if o.Kind = 1 then ((app o.Text [(at_ x0.Cells i).Char]).bind fun t => read_Image.l1.m K x0 k (w64 (i + 1)) (out.dropLast ++ [(⟨1, t, zA, 0, 0⟩ : api_Order)])) else ((app out [(⟨1, [(at_ x0.Cells i).Char], zA, 0, 0⟩ : api_Order)]).bind fun l => read_Image.l1.m K x0 k (w64 (i + 1)) l)))) else none) else (some out))
def read_Image.m (K : Nat) (x0 : api_Screen) : Option (List api_Order) :=
  ((read_Image.l1.m K x0 K 0 [(⟨3, [], zA, 0, 0⟩ : api_Order)]).bind fun out => (if x0.Cursor = 0 then (app out [(⟨4, [], zA, 0, 0⟩ : api_Order)]) else ((app out [(⟨3, [], zA, x0.Cursor, 0⟩ : api_Order)]).bind fun l => app l [(⟨4, [], zA, 0, 0⟩ : api_Order)])))
abbrev scr (x0 : api_Screen) (a : Option Addr) (p : Nat) : List Value := [.int .i64 x0.Rows, .int .i64 x0.Cols, .slice a x0.Cells.length p, .int .i64 x0.Cursor, .bool x0.Locked, .bool x0.Insert]
/-- The last order is none of text. -/
def ImgC (E : En) (x0 : api_Screen) (a : Option Addr) (p b1 : Nat) (ao : Option Addr) (co : Nat) (raws : List (List Value)) (out : List api_Order) (I : Gh) (h : Heap) : Prop :=
  ∃ out0 o, out = out0 ++ [o] ∧ o.Kind ≠ 1 ∧ St E [rO (tRaw 8) .i ao co raws.length raws, rA t_api_Order raws out, rB b1 (scr x0 a p) 31, rR t_api_Cell .b a p x0.Cells.length x0.Cells] I h
/-- The last order is text, which is still the call's own. -/
def ImgO (E : En) (x0 : api_Screen) (a : Option Addr) (p b1 : Nat) (ao : Option Addr) (co : Nat) (raws : List (List Value)) (out : List api_Order) (I : Gh) (h : Heap) : Prop :=
  ∃ raws0 out0 ta tc t, raws = raws0 ++ [oc 1 (.slice ta (List.length t) tc) zA 0] ∧ out = out0 ++ [⟨1, t, zA, 0, 0⟩] ∧ List.length raws0 = List.length out0 ∧
    St E [rO (tRaw 8) .i ao co raws.length raws, rO (tInt .u8) .i ta tc (List.length t) t, rA t_api_Order raws0 out0, rB b1 (scr x0 a p) 31, rR t_api_Cell .b a p x0.Cells.length x0.Cells] I h
theorem img_close {E : En} {x0 : api_Screen} {a : Option Addr} {p b1 : Nat} {ao : Option Addr} {co : Nat} {raws : List (List Value)} {out : List api_Order} {I : Gh} {h : Heap} (q : ImgC E x0 a p b1 ao co raws out I h ∨ ImgO E x0 a p b1 ao co raws out I h) :
    ∃ I', St E [rO (tRaw 8) .i ao co raws.length raws, rA t_api_Order raws out, rB b1 (scr x0 a p) 31, rR t_api_Cell .b a p x0.Cells.length x0.Cells] I' h := by
  rcases q with ⟨_, _, _, _, hs⟩ | ⟨raws0, out0, ta, tc, t, rfl, rfl, _, hs⟩
  · exact ⟨I, hs⟩
  · obtain ⟨I', hs⟩ := (hs.f d1).fO
    have rd : Rd (tInt .u8) I' h ta tc t := hs.rd d0
    have hs2 := (hs.f d2).rA1 (cs := oc 1 (.slice ta (List.length t) tc) zA 0) (x := ⟨1, t, zA, 0, 0⟩) ⟨ta, tc, List.length t, rfl, rd, rfl⟩
    exact ⟨I', hs2.pk (.c d2 (.c d0 (.c d1 (.c d1 .n))))⟩
theorem img_len {E : En} {x0 : api_Screen} {a : Option Addr} {p b1 : Nat} {ao : Option Addr} {co : Nat} {raws : List (List Value)} {out : List api_Order} {I : Gh} {h : Heap} (q : ImgC E x0 a p b1 ao co raws out I h ∨ ImgO E x0 a p b1 ao co raws out I h) :
    raws.length = out.length ∧ 1 ≤ out.length := by
  rcases q with ⟨_, _, rfl, _, hs⟩ | ⟨raws0, out0, ta, tc, t, rfl, rfl, e, hs⟩
  · exact ⟨(hs.g d1).1, by simp⟩
  · simp [e]

theorem read_Image.calls {B I : Gh} {h : Heap} {K : Nat} {x0 : api_Screen} {a21 : Option Addr} {p22 : Nat} {n23 : Nat} {r : (List api_Order)} (H : read_Image.m K x0 = some r) :
    Fc Tryd.prog 12 #[.agg #[.int .i64 x0.Rows, .int .i64 x0.Cols, .slice a21 n23 p22, .int .i64 x0.Cursor, .bool x0.Locked, .bool x0.Insert]] [rR t_api_Cell .b a21 p22 n23 x0.Cells] B I h (fun v L => ∃ (a24 : Option Addr) (p25 : Nat) (n26 : Nat), v = .slice a24 n26 p25 ∧ L = [rO t_api_Order .i a24 p25 n26 r]) := by
 refine fc_of fun E hs => ?_
 unfold read_Image.m at H
 obtain rfl := hs.nR d0
 refine fn_of (args := [.agg #[.int .i64 x0.Rows, .int .i64 x0.Cols, .slice a21 x0.Cells.length p22, .int .i64 x0.Cursor, .bool x0.Locked, .bool x0.Insert]]) (rs := [.tmp 2]) (N := 68) Tryd.func12 rfl rfl rfl rfl ?_
 refine st 2 [] (k_op (nB hs (scr x0 a21 p22) ?_))
 intro b1 h hs
 refine st 5 [] (k_op (nS (e := 39) hs .i (tRaw 8) [oc 3 (.slice none 0 0) zA 0] (oc 3 (.slice none 0 0) zA 0) 8 oz (rawR _ rfl rfl) ?_))
 intro b2 h hs
 replace hs := (hs.rA0 (T := t_api_Order)).rA1 (cs := oc 3 (.slice none 0 0) zA 0) (oc_rep 3 zA 0)
 refine st 6 [] (k_op (lB (hs.bl d2) 2 rfl ?_))
 refine st 4 [] ?_
 obtain ⟨out9, m9, HR⟩ := bind_some H
 refine k_loop 0 (fun k' ρ h => ∃ (i : Int) (out : List api_Order) (raws : List (List Value)) (ao : Option Addr) (co : Nat) (I : Gh), read_Image.l1.m K x0 k' i out = some out9 ∧
     Fits [(1, .pointer (some ⟨b1, 0, none⟩)), (3, .slice ao raws.length co), (10, .slice a21 x0.Cells.length p22), (11, .int .i64 (x0.Cells.length : Int)), (12, .int .i64 i)] ρ ∧ out.length ≤ 1099511627776 ∧ (ImgC E x0 a21 p22 b1 ao co raws out I h ∨ ImgO E x0 a21 p22 b1 ao co raws out I h))
   (fun ρ h => ∃ (ao : Option Addr) (co no : Nat) (raws : List (List Value)) (I : Gh), Fits [(1, .pointer (some ⟨b1, 0, none⟩)), (3, .slice ao no co)] ρ ∧ raws.length = no ∧
     St E [rO (tRaw 8) .i ao co no raws, rA t_api_Order raws out9, rB b1 (scr x0 a21 p22) 31, rR t_api_Cell .b a21 p22 x0.Cells.length x0.Cells] I h) K
   ⟨0, _, [oc 3 (.slice none 0 0) zA 0], (some ⟨b2, 0, none⟩), 1, I, m9, ⟨by kernel_rfl, by kernel_rfl, by kernel_rfl, by kernel_rfl, by kernel_rfl, trivial⟩, by decide, .inl ⟨[], ⟨3, [], zA, 0, 0⟩, rfl, by decide, hs.pk (.c d1 (.c d0 (.c d0 (.c d0 .n))))⟩⟩ ?_ rfl ?_
 · clear HR m9 H hs
   rintro k' ρ h ⟨i, out, raws, ao, co, I, H, hf, hlim, hI⟩
   cases k' with
   | zero => cases H
   | succ k =>
   rw [read_Image.l1.m] at H
   refine k_fits _ hf ?_ rfl
   obtain ⟨hrl, ho1⟩ := img_len hI
   obtain ⟨j, hj⟩ : ∃ j, j = w64 ((raws.length : Int) - 1) := ⟨_, rfl⟩
   have hjv : j = (raws.length : Int) - 1 := by rw [hj]; exact w64_sm (by omega) (by omega)
   have hj0 : 0 ≤ j := by omega
   have hj1 : j < (raws.length : Int) := by omega
   refine st 2 [] (k_ite H (fun c1 H => ?_) (fun c1 H => ?_))
   · obtain ⟨c0, H⟩ := guard_pos H
     rcases hI with ⟨out0, o, rfl, hk, hs⟩ | ⟨raws0, out0, ta, tc, t, rfl, rfl, hl0, hs⟩
     · refine st 8 [true] (k_val (elemPtr a21 (i.toNat * 6)) (pI (e := 66) (ik := .i64) (hs.sR d3) c0 c1) ?_)
       obtain ⟨cs, g, q⟩ := (hs.sR d3).toSl.seg c0 c1
       obtain rfl := t_api_Cell.open_ q
       refine k_op (lG g ?_)
       refine k_op (nA hs [.bool false, .bool false, .bool false, .int .i64 0, .bool false, .int .u8 0] (.agg #[.bool false, .bool false, .bool false, .int .i64 0, .bool false, .int .u8 0]) ?_)
       intro b5 h hs
       refine k_op (sN hs 0 [.bool (at_ x0.Cells i).Field, .bool (at_ x0.Cells i).Attr.Protected, .bool (at_ x0.Cells i).Attr.Numeric, .int .i64 (at_ x0.Cells i).Attr.Show, .bool (at_ x0.Cells i).Attr.Modified, .int .u8 (at_ x0.Cells i).Char] [.bool (at_ x0.Cells i).Field, .bool (at_ x0.Cells i).Attr.Protected, .bool (at_ x0.Cells i).Attr.Numeric, .int .i64 (at_ x0.Cells i).Attr.Show, .bool (at_ x0.Cells i).Attr.Modified, .int .u8 (at_ x0.Cells i).Char] (ones_of rfl) ?_)
       intro h hs
       refine st 7 [] (k_val (elemPtr ao (j.toNat * 8)) (hj ▸ pI (e := 39) (ik := .i64) (hs.sO d1) (hj ▸ hj0) (hj ▸ hj1)) ?_)
       refine st 6 [] (k_op (lB (hs.bl d0) 0 rfl ?_))
       refine k_spl H (fun c2 H => ?_) (fun c2 H => ?_)
       · refine st 6 [true] (k_op (lN (hs.bl d0) 1 4 ?_))
         refine st 1 [] (k_op (nS (e := 39) hs .i (tRaw 8) [oc 2 (.slice none 0 0) (at_ x0.Cells i).Attr 0] (oc 2 (.slice none 0 0) (at_ x0.Cells i).Attr 0) 8 oz (rawR _ rfl rfl) ?_))
         intro b6 h hs
         obtain ⟨l, m, H⟩ := bind_some H
         obtain ⟨rfl, mr⟩ := app_len (l' := raws) (m' := [oc 2 (.slice none 0 0) (at_ x0.Cells i).Attr 0]) m hrl rfl
         have hl2 := (app_some m).1
         replace hs := (hs.f d2)
         refine k_op (aO (e := 39) (bytes := 72) hs (hs.sO d1) mr ?_)
         intro a7 c7 h hs
         replace hs := (hs.f d3).rA1 (cs := oc 2 (.slice none 0 0) (at_ x0.Cells i).Attr 0) (oc_rep 2 (at_ x0.Cells i).Attr 0)
         refine st 8 [] ?_
         exact k_endL ⟨k, Nat.lt_succ_self _, w64 (i + 1), _, raws ++ [oc 2 (.slice none 0 0) (at_ x0.Cells i).Attr 0], a7, c7, I, H, ⟨by kernel_rfl, by kernel_rfl, by kernel_rfl, by kernel_rfl, by kernel_rfl, trivial⟩, by rw [List.length_append]; exact hl2, .inl ⟨_, ⟨2, [], (at_ x0.Cells i).Attr, 0, 0⟩, rfl, (show (2 : Int) ≠ 1 by decide), hs.pk (.c d1 (.c d0 (.c d2 (.c d2 .n))))⟩⟩
       · rw [List.getLast?_concat] at H
         simp only at H
         rw [if_neg hk] at H
         obtain ⟨q1, q2⟩ := hs.g d2
         have hkc : (at_ raws j)[0]? = some (.int .i64 o.Kind) := by
           have e1 : j.toNat < raws.length := by omega
           have e2 : j.toNat < (out0 ++ [o]).length := by omega
           obtain ⟨_, _, _, e3, _⟩ := q2 j.toNat e1 e2
           have e4 : (out0 ++ [o])[j.toNat] = o := by
             have : j.toNat = out0.length := by rw [List.length_append] at hrl; simp at hrl; omega
             simp [this]
           rw [at_eq (hi := e1), e3, e4]; rfl
         refine st 6 [false] (k_val (elemPtr ao (j.toNat * 8)) (pN (hs.sO d1) hj0 hj1) ?_)
         refine k_val (elemPtr ao (j.toNat * 8 + 0)) (pF (off := 0) (hs.sO d1) hj0 hj1) ?_
         refine k_op (lC (seg_cell (f := 0) (raw_seg hs d1 hj0 hj1) hkc) ?_)
         refine k_val (.bool false) (pr_bool (b := (o.Kind == 1)) (by kernel_rfl) (beq_eq_false_iff_ne.2 hk)) ?_
         refine st 6 [false] (k_op (lB (hs.bl d0) 5 rfl ?_))
         refine k_op (nS (e := 5) hs .i (tInt .u8) [(at_ x0.Cells i).Char] [.int .u8 (at_ x0.Cells i).Char] 1 (.int .u8 0) (Reps.int (k := .u8) (l := [(at_ x0.Cells i).Char])) ?_)
         intro b6 h hs
         refine st 1 [] (k_op (nS (e := 39) hs .i (tRaw 8) [oc 1 (.slice (some ⟨b6, 0, none⟩) 1 1) zA 0] (oc 1 (.slice (some ⟨b6, 0, none⟩) 1 1) zA 0) 8 oz (rawR _ rfl rfl) ?_))
         intro b7 h hs
         obtain ⟨l, m, H⟩ := bind_some H
         obtain ⟨rfl, mr⟩ := app_len (l' := raws) (m' := [oc 1 (.slice (some ⟨b6, 0, none⟩) 1 1) zA 0]) m hrl rfl
         have hl2 := (app_some m).1
         replace hs := (hs.f d3)
         refine k_op (aO (e := 39) (bytes := 72) hs (hs.sO d1) mr ?_)
         intro a7 c7 h hs
         refine st 8 [] ?_
         exact k_endL ⟨k, Nat.lt_succ_self _, w64 (i + 1), _, raws ++ [oc 1 (.slice (some ⟨b6, 0, none⟩) 1 1) zA 0], a7, c7, I, H, ⟨by kernel_rfl, by kernel_rfl, by kernel_rfl, by kernel_rfl, by kernel_rfl, trivial⟩, by rw [List.length_append]; exact hl2, .inr ⟨raws, out0 ++ [o], (some ⟨b6, 0, none⟩), 1, [(at_ x0.Cells i).Char], rfl, rfl, hrl, hs.pk (.c d0 (.c d1 (.c d2 (.c d2 (.c d2 .n)))))⟩⟩
     · have hle : at_ (raws0 ++ [oc 1 (.slice ta (List.length t) tc) zA 0]) j = oc 1 (.slice ta (List.length t) tc) zA 0 := at_last (by rw [hjv, List.length_append]; simp)
       refine st 8 [true] (k_val (elemPtr a21 (i.toNat * 6)) (pI (e := 66) (ik := .i64) (hs.sR d4) c0 c1) ?_)
       obtain ⟨cs, g, q⟩ := (hs.sR d4).toSl.seg c0 c1
       obtain rfl := t_api_Cell.open_ q
       refine k_op (lG g ?_)
       refine k_op (nA hs [.bool false, .bool false, .bool false, .int .i64 0, .bool false, .int .u8 0] (.agg #[.bool false, .bool false, .bool false, .int .i64 0, .bool false, .int .u8 0]) ?_)
       intro b5 h hs
       refine k_op (sN hs 0 [.bool (at_ x0.Cells i).Field, .bool (at_ x0.Cells i).Attr.Protected, .bool (at_ x0.Cells i).Attr.Numeric, .int .i64 (at_ x0.Cells i).Attr.Show, .bool (at_ x0.Cells i).Attr.Modified, .int .u8 (at_ x0.Cells i).Char] [.bool (at_ x0.Cells i).Field, .bool (at_ x0.Cells i).Attr.Protected, .bool (at_ x0.Cells i).Attr.Numeric, .int .i64 (at_ x0.Cells i).Attr.Show, .bool (at_ x0.Cells i).Attr.Modified, .int .u8 (at_ x0.Cells i).Char] (ones_of rfl) ?_)
       intro h hs
       refine st 7 [] (k_val (elemPtr ao (j.toNat * 8)) (hj ▸ pI (e := 39) (ik := .i64) (hs.sO d1) (hj ▸ hj0) (hj ▸ hj1)) ?_)
       refine st 6 [] (k_op (lB (hs.bl d0) 0 rfl ?_))
       refine k_spl H (fun c2 H => ?_) (fun c2 H => ?_)
       · refine st 6 [true] (k_op (lN (hs.bl d0) 1 4 ?_))
         refine st 1 [] (k_op (nS (e := 39) hs .i (tRaw 8) [oc 2 (.slice none 0 0) (at_ x0.Cells i).Attr 0] (oc 2 (.slice none 0 0) (at_ x0.Cells i).Attr 0) 8 oz (rawR _ rfl rfl) ?_))
         intro b6 h hs
         obtain ⟨l, m, H⟩ := bind_some H
         obtain ⟨rfl, mr⟩ := app_len (l' := raws0 ++ [oc 1 (.slice ta (List.length t) tc) zA 0]) (m' := [oc 2 (.slice none 0 0) (at_ x0.Cells i).Attr 0]) m hrl rfl
         have hl2 := (app_some m).1
         obtain ⟨I, hs⟩ := (hs.f d3).fO
         have rd : Rd (tInt .u8) I h ta tc t := hs.rd d0
         replace hs := (hs.f d4).rA1 (cs := oc 1 (.slice ta (List.length t) tc) zA 0) (x := ⟨1, t, zA, 0, 0⟩) ⟨ta, tc, List.length t, rfl, rd, rfl⟩
         replace hs := (hs.f d4)
         refine k_op (aO (e := 39) (bytes := 72) hs (hs.sO d3) mr ?_)
         intro a7 c7 h hs
         replace hs := (hs.f d1).rA1 (cs := oc 2 (.slice none 0 0) (at_ x0.Cells i).Attr 0) (oc_rep 2 (at_ x0.Cells i).Attr 0)
         refine st 8 [] ?_
         exact k_endL ⟨k, Nat.lt_succ_self _, w64 (i + 1), _, _, a7, c7, I, H, ⟨by kernel_rfl, by kernel_rfl, by kernel_rfl, by kernel_rfl, by kernel_rfl, trivial⟩, by rw [List.length_append]; exact hl2, .inl ⟨_, ⟨2, [], (at_ x0.Cells i).Attr, 0, 0⟩, rfl, (show (2 : Int) ≠ 1 by decide), hs.pk (.c d1 (.c d0 (.c d3 (.c d3 .n))))⟩⟩
       · rw [List.getLast?_concat] at H
         simp only at H
         rw [if_pos trivial, List.dropLast_concat] at H
         have hkc : (at_ (raws0 ++ [oc 1 (.slice ta (List.length t) tc) zA 0]) j)[0]? = some (.int .i64 1) := by rw [hle]; rfl
         have htc : (at_ (raws0 ++ [oc 1 (.slice ta (List.length t) tc) zA 0]) j)[1]? = some (.slice ta (List.length t) tc) := by rw [hle]; rfl
         refine st 6 [false] (k_val (elemPtr ao (j.toNat * 8)) (pN (hs.sO d1) hj0 hj1) ?_)
         refine k_val (elemPtr ao (j.toNat * 8 + 0)) (pF (off := 0) (hs.sO d1) hj0 hj1) ?_
         refine k_op (lC (seg_cell (f := 0) (raw_seg hs d1 hj0 hj1) hkc) ?_)
         refine st 4 [true] ?_
         obtain ⟨hs0, bk0⟩ := (hs.f d2).call tk1 (.c (qO d1) (.c (qL d0) .n))
         have hs := hs0
         refine k_regD hs0 9 ?_
         refine aRun [0, 1] 10 hs.keep ?_
         refine aP 2 (elemPtr ao (j.toNat * 8)) rfl (pN (hs.sR d1) hj0 hj1) hs.keep ?_
         refine aP 3 (elemPtr ao (j.toNat * 8 + 1)) rfl (pF (off := 1) (hs.sR d1) hj0 hj1) hs.keep ?_
         refine aL 4 rfl hs.keep (seg_cell (f := 1) (raw_segR hs0 d1 hj0 hj1) htc) (nmR hs0 d1 hj0 hj1) ?_
         refine aRun [5] 6 hs.keep ?_
         refine aL 6 rfl hs.keep (ll hs0 d2 (n := 5) rfl) (nmL hs0 d2) ?_
         refine aO1 7 rfl (nS (e := 5) hs .i (tInt .u8) [(at_ x0.Cells i).Char] [.int .u8 (at_ x0.Cells i).Char] 1 (.int .u8 0) (Reps.int (k := .u8) (l := [(at_ x0.Cells i).Char])) ?_)
         intro b6 h hs
         refine ⟨hs.keep, ?_⟩
         obtain ⟨t2, m, H⟩ := bind_some H
         replace hs := (hs.f d1)
         refine aO1 8 rfl (aO (e := 5) (bytes := 1) hs (hs.sO d1) m ?_)
         intro a7 c7 h hs
         refine ⟨hs.keep, ?_⟩
         replace hs := hs.pk (.c d0 .n)
         replace hs := bk0 hs ct1 rfl
         refine aOL 9 rfl (owp_pure (elemPtr ao (j.toNat * 8)) (pN (hs.sO d2) hj0 hj1) ?_)
         refine aOL 10 rfl (owp_pure (elemPtr ao (j.toNat * 8 + 1)) (pF (off := 1) (hs.sO d2) hj0 hj1) ?_)
         have hsg := raw_seg hs d2 hj0 hj1
         rw [hle] at hsg
         refine aOL 11 rfl (sE (hs.f d2) 1 [.slice a7 t2.length c7] (oc 1 (.slice a7 t2.length c7) zA 0) hj0 hj1 hsg (ones_of rfl) ⟨rfl, rfl, ones_of rfl⟩ ?_)
         intro h hs
         rw [set_last (by rw [hjv, List.length_append]; simp)] at hs
         refine aEnd ?_
         refine st 6 [] ?_
         have hn : (raws0 ++ [oc 1 (.slice ta (List.length t) tc) zA 0]).length = (raws0 ++ [oc 1 (.slice a7 t2.length c7) zA 0]).length := by simp
         rw [hn] at hs
         exact k_endL ⟨k, Nat.lt_succ_self _, w64 (i + 1), _, raws0 ++ [oc 1 (.slice a7 t2.length c7) zA 0], ao, co, I, H, ⟨by kernel_rfl, hn ▸ by kernel_rfl, by kernel_rfl, by kernel_rfl, by kernel_rfl, trivial⟩, by rw [List.length_append] at hlim ⊢; simpa using hlim, .inr ⟨raws0, out0, a7, c7, t2, rfl, rfl, hl0, hs.pk (.c d0 (.c d0 (.c d1 (.c d1 (.c d1 .n)))))⟩⟩
   · obtain rfl := Option.some.inj H
     obtain ⟨I, hs⟩ := img_close hI
     refine st 3 [false] ?_
     refine k_out rfl ?_
     exact xE ⟨ao, co, raws.length, raws, I, ⟨by kernel_rfl, by kernel_rfl, trivial⟩, rfl, hs⟩
 · rintro ρ h ⟨ao, co, no, raws, I, hf, hno, hs⟩
   refine k_fits _ hf ?_ rfl
   have H := HR
   subst hno
   have hrl : raws.length = out9.length := (hs.g d1).1
   refine st 4 [] (k_op (lB (hs.bl d2) 3 rfl ?_))
   refine k_iteN H (fun c1 H => ?_) (fun c1 H => ?_)
   · refine st 7 [false] (k_op (nS (e := 39) hs .i (tRaw 8) [oc 4 (.slice none 0 0) zA 0] (oc 4 (.slice none 0 0) zA 0) 8 oz (rawR _ rfl rfl) ?_))
     intro b6 h hs
     obtain ⟨rfl, mr⟩ := app_len (l' := raws) (m' := [oc 4 (.slice none 0 0) zA 0]) H hrl rfl
     replace hs := (hs.f d1)
     refine k_op (aO (e := 39) (bytes := 72) hs (hs.sO d1) mr ?_)
     intro a7 c7 h hs
     replace hs := (hs.f d2).rA1 (cs := oc 4 (.slice none 0 0) zA 0) (oc_rep 4 zA 0)
     refine st 2 [] ?_
     refine k_retQ ?_
     replace hs := St.unraw (T := t_api_Order) (hs.f d1)
     exact ⟨_, by kernel_rfl, I, _, ⟨a7, c7, _, rfl, rfl⟩, hs.pk (.c d0 .n)⟩
   · refine st 5 [true] (k_op (lB (hs.bl d2) 3 rfl ?_))
     refine st 1 [] (k_op (nS (e := 39) hs .i (tRaw 8) [oc 3 (.slice none 0 0) zA x0.Cursor] (oc 3 (.slice none 0 0) zA x0.Cursor) 8 oz (rawR _ rfl rfl) ?_))
     intro b6 h hs
     obtain ⟨l, m, H⟩ := bind_some H
     obtain ⟨rfl, mr⟩ := app_len (l' := raws) (m' := [oc 3 (.slice none 0 0) zA x0.Cursor]) m hrl rfl
     replace hs := (hs.f d1)
     refine k_op (aO (e := 39) (bytes := 72) hs (hs.sO d1) mr ?_)
     intro a7 c7 h hs
     replace hs := (hs.f d2).rA1 (cs := oc 3 (.slice none 0 0) zA x0.Cursor) (oc_rep 3 zA x0.Cursor)
     have hrl2 := (hs.g d0).1
     refine st 6 [] (k_op (nS (e := 39) hs .i (tRaw 8) [oc 4 (.slice none 0 0) zA 0] (oc 4 (.slice none 0 0) zA 0) 8 oz (rawR _ rfl rfl) ?_))
     intro b8 h hs
     obtain ⟨rfl, mr2⟩ := app_len (l' := raws ++ [oc 3 (.slice none 0 0) zA x0.Cursor]) (m' := [oc 4 (.slice none 0 0) zA 0]) H hrl2 rfl
     replace hs := (hs.f d2)
     refine k_op (aO (e := 39) (bytes := 72) hs (hs.sO d1) mr2 ?_)
     intro a9 c9 h hs
     replace hs := (hs.f d2).rA1 (cs := oc 4 (.slice none 0 0) zA 0) (oc_rep 4 zA 0)
     refine st 2 [] ?_
     refine k_retQ ?_
     replace hs := St.unraw (T := t_api_Order) (hs.f d1)
     exact ⟨_, by kernel_rfl, I, _, ⟨a9, c9, _, rfl, rfl⟩, hs.pk (.c d0 .n)⟩

/-! shutter/field.Begins -/
def field_Begins.l1.m (K : Nat) (x0 : api_Screen) : Nat → (List Int) → Int → Option ((List Int))
  | 0, _, _ => none
  | k + 1, x26, x31 => (letJ (α := Bool → Option ((List Int))) (fun (x41 : Bool) => (bif x41 then (if 0 ≤ x31 then (if x31 < (x0.Cells.length : Int) then (bif (at_ x0.Cells x31).Field then ((app x26 [x31]).bind fun l52 => (field_Begins.l1.m K x0 k l52 (w64 (x31 + 1)))) else (field_Begins.l1.m K x0 k x26 (w64 (x31 + 1)))) else none) else none) else (some (x26)))) fun (j42 : Bool → Option ((List Int))) => (if x31 < (x0.Cells.length : Int) then (j42 true) else (j42 false)))
def field_Begins.m (K : Nat) (x0 : api_Screen) : Option (List Int) :=
  ((field_Begins.l1.m K x0 K [] 0).bind fun x33 => (some x33))

theorem field_Begins.calls {B I : Gh} {h : Heap} {K : Nat} {x0 : api_Screen} {a21 : Option Addr} {p22 : Nat} {n23 : Nat} {r : (List Int)} (H : field_Begins.m K x0 = some r)  :
    Fc Tryd.prog 32 #[.agg #[.int .i64 x0.Rows, .int .i64 x0.Cols, .slice a21 n23 p22, .int .i64 x0.Cursor, .bool x0.Locked, .bool x0.Insert]] [rR t_api_Cell .b a21 p22 n23 x0.Cells] B I h (fun v L => ∃ (a58 : Option Addr) (p59 : Nat) (n60 : Nat), v = .slice a58 n60 p59 ∧ L = [rO (tInt .i64) .i a58 p59 n60 r]) := by
 refine fc_of fun E hs => ?_
 unfold field_Begins.m at H
 obtain rfl := hs.nR d0
 refine fn_of (args := [.agg #[.int .i64 x0.Rows, .int .i64 x0.Cols, .slice a21 x0.Cells.length p22, .int .i64 x0.Cursor, .bool x0.Locked, .bool x0.Insert]]) (rs := [.tmp 2]) (N := 22) Tryd.func32 rfl rfl rfl rfl ?_
 refine st 2 [] (k_op (nB hs [.int .i64 x0.Rows, .int .i64 x0.Cols, .slice a21 x0.Cells.length p22, .int .i64 x0.Cursor, .bool x0.Locked, .bool x0.Insert] ?_))
 intro b25 h hs
 refine st 10 [] (k_op (lB (hs.bl d0) 2 rfl ?_))
 refine st 4 [] ?_
 obtain ⟨s32, m39, HR38⟩ := bind_some H
 refine k_loop 0 (fun k' ρ h => ∃ (x26 : List Int) (x31 : Int) (a27 : Option Addr) (p28 : Nat) (n29 : Nat) (I : Gh), field_Begins.l1.m K x0 k' x26 x31 = some s32 ∧ Fits [(3, .slice a27 n29 p28), (7, .slice a21 x0.Cells.length p22), (8, .int .i64 (x0.Cells.length : Int)), (9, .int .i64 x31)] ρ ∧ St E [rO (tInt .i64) .i a27 p28 n29 x26, rR t_api_Cell .b a21 p22 x0.Cells.length x0.Cells] I h) (fun ρ h => ∃ (x33 : List Int) (a34 : Option Addr) (p35 : Nat) (n36 : Nat) (I : Gh), x33 = s32 ∧ Fits [(3, .slice a34 n36 p35)] ρ ∧ St E [rO (tInt .i64) .i a34 p35 n36 x33] I h) K ⟨[], 0, none, 0, 0, I, m39, ⟨by kernel_rfl, by kernel_rfl, by kernel_rfl, by kernel_rfl, trivial⟩, hs.pk (.f imON (.c d1 .n))⟩ ?_ rfl ?_
 ·clear HR38 m39 H
  rintro k' ρ h ⟨x26, x31, a27, p28, n29, I, H, hf, hs⟩
  cases k' with
  | zero => cases H
  | succ k =>
   rw [field_Begins.l1.m] at H
   refine k_fits _ hf ?_ rfl
   obtain rfl := hs.nO d0
   refine st 1 [] ?_
   obtain ⟨j42, e57, H⟩ := letJ_some H
   refine k_join (fun ρ h => ∃ (x41 : Bool) (I : Gh), j42 x41 = some s32 ∧ Fits [(3, .slice a27 x26.length p28), (7, .slice a21 x0.Cells.length p22), (8, .int .i64 (x0.Cells.length : Int)), (9, .int .i64 x31), (10, .bool x41)] ρ ∧ St E [rO (tInt .i64) .i a27 p28 x26.length x26, rR t_api_Cell .b a21 p22 x0.Cells.length x0.Cells] I h) ?_ ?_
   ·refine st 1 [] (k_ite H (fun c40 H => ?_) (fun c40 H => ?_))
    ·refine st 1 [] ?_
     exact k_end ⟨true, I, H, ⟨by kernel_rfl, by kernel_rfl, by kernel_rfl, by kernel_rfl, by kernel_rfl, trivial⟩, hs.pk (.c d0 (.c d0 .n))⟩
    ·refine st 1 [] ?_
     exact k_end ⟨false, I, H, ⟨by kernel_rfl, by kernel_rfl, by kernel_rfl, by kernel_rfl, by kernel_rfl, trivial⟩, hs.pk (.c d0 (.c d0 .n))⟩
   ·clear H
    rintro ρ h ⟨x41, I, H, hf, hs⟩
    refine k_fits _ hf ?_ rfl
    subst e57
    try dsimp only at H
    cases x41
    ·rw [cond_false] at H
     refine st 2 [false] ?_
     refine k_out rfl ?_
     obtain rfl := Option.some.inj H
     exact xE ⟨x26, a27, p28, x26.length, I, rfl, ⟨by kernel_rfl, trivial⟩, hs.pk (.c d0 .n)⟩
    ·rw [cond_true] at H
     obtain ⟨c43, H⟩ := guard_pos H
     obtain ⟨c44, H⟩ := guard_pos H
     refine st 8 [true] (k_val (elemPtr a21 (x31.toNat * 6)) (pI (e := 66) (ik := .i64) (hs.sR d1) c43 c44) ?_)
     obtain ⟨y46, g45, q47⟩ := (hs.sR d1).toSl.seg c43 c44
     obtain rfl := t_api_Cell.open_ q47
     refine k_op (lG g45 ?_)
     refine k_op (nA hs [.bool false, .bool false, .bool false, .int .i64 0, .bool false, .int .u8 0] (.agg #[.bool false, .bool false, .bool false, .int .i64 0, .bool false, .int .u8 0]) ?_)
     intro b48 h hs
     refine st 1 [] (k_op (sN hs 0 [.bool ((at_ x0.Cells x31).Field), .bool (((at_ x0.Cells x31).Attr).Protected), .bool (((at_ x0.Cells x31).Attr).Numeric), .int .i64 (((at_ x0.Cells x31).Attr).Show), .bool (((at_ x0.Cells x31).Attr).Modified), .int .u8 ((at_ x0.Cells x31).Char)] [.bool ((at_ x0.Cells x31).Field), .bool (((at_ x0.Cells x31).Attr).Protected), .bool (((at_ x0.Cells x31).Attr).Numeric), .int .i64 (((at_ x0.Cells x31).Attr).Show), .bool (((at_ x0.Cells x31).Attr).Modified), .int .u8 ((at_ x0.Cells x31).Char)] (ones_of rfl) ?_))
     intro h hs
     refine st 4 [] (k_op (lB (hs.bl d0) 0 rfl ?_))
     refine k_spl H (fun c49 H => ?_) (fun c49 H => ?_)
     ·refine st 5 [true] (k_op (nS (e := 3) hs .i (tInt .i64) ([x31] : List Int) [.int .i64 x31] 1 (.int .i64 0) (Reps.int (I := (Cl.G .i E.B I)) (k := .i64) (l := [x31])) ?_))
      intro b50 h hs
      replace hs := (hs.f d2)
      obtain ⟨l52, m53, H⟩ := bind_some H
      refine k_op (aO (e := 3) (bytes := 8) hs (hs.sO d1) m53 ?_)
      intro a54 p55 h hs
      refine st 7 [] ?_
      exact k_endL ⟨k, Nat.lt_succ_self _, l52, (w64 (x31 + 1)), a54, p55, l52.length, I, H, ⟨by kernel_rfl, by kernel_rfl, by kernel_rfl, by kernel_rfl, trivial⟩, hs.pk (.c d0 (.c d2 .n))⟩
     ·refine st 8 [false] ?_
      exact k_endL ⟨k, Nat.lt_succ_self _, x26, (w64 (x31 + 1)), a27, p28, x26.length, I, H, ⟨by kernel_rfl, by kernel_rfl, by kernel_rfl, by kernel_rfl, trivial⟩, hs.pk (.c d1 (.c d1 .n))⟩
 ·rintro ρ h ⟨x33, a34, p35, n36, I, rfl, hf, hs⟩
  have H := HR38
  try dsimp only at H
  refine k_fits _ hf ?_ rfl
  obtain rfl := hs.nO d0
  refine st 5 [] ?_
  refine k_retQ ?_
  obtain rfl := Option.some.inj H
  exact ⟨_, by kernel_rfl, I, _, ⟨a34, p35, x33.length, rfl, rfl⟩, hs.pk (.c d0 .n)⟩

/-! shutter/grid.On -/
def grid_On.m (x0 : api_Screen) (x1 : Int) (x2 : Int) : Option Int :=
  (if (x0.Cells.length : Int) ≠ 0 then (some (Int.tmod (w64 ((w64 (x1 + (Int.tmod x2 (x0.Cells.length : Int)))) + (x0.Cells.length : Int))) (x0.Cells.length : Int))) else none)

theorem grid_On.calls {B I : Gh} {h : Heap} {x0 : api_Screen} {x1 : Int} {x2 : Int} {a21 : Option Addr} {p22 : Nat} {n23 : Nat} {r : Int} (H : grid_On.m x0 x1 x2 = some r)  :
    Fc Tryd.prog 33 #[.agg #[.int .i64 x0.Rows, .int .i64 x0.Cols, .slice a21 n23 p22, .int .i64 x0.Cursor, .bool x0.Locked, .bool x0.Insert], .int .i64 x1, .int .i64 x2] [rR t_api_Cell .b a21 p22 n23 x0.Cells] B I h (fun v L => v = .int .i64 r ∧ L = []) := by
 refine fc_of fun E hs => ?_
 unfold grid_On.m at H
 obtain rfl := hs.nR d0
 refine fn_of (args := [.agg #[.int .i64 x0.Rows, .int .i64 x0.Cols, .slice a21 x0.Cells.length p22, .int .i64 x0.Cursor, .bool x0.Locked, .bool x0.Insert], .int .i64 x1, .int .i64 x2]) (rs := [.tmp 6]) (N := 20) Tryd.func33 rfl rfl rfl rfl ?_
 refine st 2 [] (k_op (nB hs [.int .i64 x0.Rows, .int .i64 x0.Cols, .slice a21 x0.Cells.length p22, .int .i64 x0.Cursor, .bool x0.Locked, .bool x0.Insert] ?_))
 intro b25 h hs
 refine st 5 [] (k_op (lB (hs.bl d0) 2 rfl ?_))
 obtain ⟨c26, H⟩ := guard_pos H
 refine st 8 [] (k_val (.int .i64 (Int.tmod x2 (x0.Cells.length : Int))) (pr_rem (k := .i64) (a := x2) (b := (x0.Cells.length : Int)) (by kernel_rfl) (by kernel_rfl) c26) ?_)
 refine st 4 [] (k_val (.int .i64 (Int.tmod (w64 ((w64 (x1 + (Int.tmod x2 (x0.Cells.length : Int)))) + (x0.Cells.length : Int))) (x0.Cells.length : Int))) (pr_rem (k := .i64) (a := (w64 ((w64 (x1 + (Int.tmod x2 (x0.Cells.length : Int)))) + (x0.Cells.length : Int)))) (b := (x0.Cells.length : Int)) (by kernel_rfl) (by kernel_rfl) c26) ?_)
 refine st 2 [] ?_
 refine k_retQ ?_
 obtain rfl := Option.some.inj H
 exact ⟨_, by kernel_rfl, I, _, ⟨rfl, rfl⟩, hs.pk .n⟩

/-! shutter/attr.Bare -/
def attr_Bare.m (x0 : Int) : Option Bool :=
  (if x0 = 108 then (some true) else (if x0 = 110 then (some true) else (if x0 = 107 then (some true) else (if x0 = 109 then (some true) else (some false)))))

theorem attr_Bare.calls {x0 : Int} {h : Heap} {r : Bool} (H : attr_Bare.m x0 = some r)   :
    Ret Tryd.prog 28 #[.int .u8 x0] h (fun v h' => .bool r = v ∧ h' = h) := by
 unfold attr_Bare.m at H
 refine fn_of (args := [.int .u8 x0]) (rs := [.tmp 2]) (N := 10) Tryd.func28 rfl rfl rfl rfl ?_
 refine st 18 [] (k_ite H (fun c21 H => ?_) (fun c21 H => ?_))
 ·refine st 12 [true, true] ?_
  refine k_retQ ?_
  obtain rfl := Option.some.inj H
  exact ⟨_, by kernel_rfl, rfl, rfl⟩
 ·refine st 5 [false] (k_ite H (fun c22 H => ?_) (fun c22 H => ?_))
  ·refine st 12 [true, true] ?_
   refine k_retQ ?_
   obtain rfl := Option.some.inj H
   exact ⟨_, by kernel_rfl, rfl, rfl⟩
  ·refine st 4 [false] (k_ite H (fun c23 H => ?_) (fun c23 H => ?_))
   ·refine st 10 [true] ?_
    refine k_retQ ?_
    obtain rfl := Option.some.inj H
    exact ⟨_, by kernel_rfl, rfl, rfl⟩
   ·refine st 6 [false] (k_ite H (fun c24 H => ?_) (fun c24 H => ?_))
    ·refine st 9 [true] ?_
     refine k_retQ ?_
     obtain rfl := Option.some.inj H
     exact ⟨_, by kernel_rfl, rfl, rfl⟩
    ·refine st 9 [false] ?_
     refine k_retQ ?_
     obtain rfl := Option.some.inj H
     exact ⟨_, by kernel_rfl, rfl, rfl⟩

/-! shutter/attr.Aid -/
def attr_Aid.m (x0 : Int) : Option Bool :=
  ((attr_Bare.m x0).bind fun t21 => bif t21 then (some true) else (if x0 = 125 then (some true) else (if x0 ≥ 241 then (if x0 ≤ 249 then (some true) else (if x0 ≥ 122 then (some (decide (x0 ≤ 124))) else (some false))) else (if x0 ≥ 122 then (some (decide (x0 ≤ 124))) else (some false)))))

theorem attr_Aid.calls {x0 : Int} {h : Heap} {r : Bool} (H : attr_Aid.m x0 = some r)   :
    Ret Tryd.prog 27 #[.int .u8 x0] h (fun v h' => .bool r = v ∧ h' = h) := by
 unfold attr_Aid.m at H
 refine fn_of (args := [.int .u8 x0]) (rs := [.tmp 2]) (N := 25) Tryd.func27 rfl rfl rfl rfl ?_
 refine st 7 [] (k_call H (fun _ m => attr_Bare.calls m) ?_)
 rintro t21 _ _ H ⟨rfl, rfl⟩
 cases t21
 ·rw [cond_false] at H
  refine st 2 [] (k_ite H (fun c22 H => ?_) (fun c22 H => ?_))
  ·refine st 19 [] ?_
   refine k_retQ ?_
   obtain rfl := Option.some.inj H
   exact ⟨_, by kernel_rfl, rfl, rfl⟩
  ·refine st 3 [] (k_ite H (fun c23 H => ?_) (fun c23 H => ?_))
   ·refine st 2 [] (k_ite H (fun c24 H => ?_) (fun c24 H => ?_))
    ·refine st 12 [] ?_
     refine k_retQ ?_
     obtain rfl := Option.some.inj H
     exact ⟨_, by kernel_rfl, rfl, rfl⟩
    ·refine st 4 [] (k_ite H (fun c25 H => ?_) (fun c25 H => ?_))
     ·refine st 7 [] ?_
      refine k_retQ ?_
      obtain rfl := Option.some.inj H
      exact ⟨_, by kernel_rfl, rfl, rfl⟩
     ·refine st 7 [] ?_
      refine k_retQ ?_
      obtain rfl := Option.some.inj H
      exact ⟨_, by kernel_rfl, rfl, rfl⟩
   ·refine st 7 [] (k_ite H (fun c26 H => ?_) (fun c26 H => ?_))
    ·refine st 7 [] ?_
     refine k_retQ ?_
     obtain rfl := Option.some.inj H
     exact ⟨_, by kernel_rfl, rfl, rfl⟩
    ·refine st 7 [] ?_
     refine k_retQ ?_
     obtain rfl := Option.some.inj H
     exact ⟨_, by kernel_rfl, rfl, rfl⟩
 ·rw [cond_true] at H
  refine st 22 [] ?_
  refine k_retQ ?_
  obtain rfl := Option.some.inj H
  exact ⟨_, by kernel_rfl, rfl, rfl⟩

/-! shutter/field.Formatted$1 -/
def field_Formatted_1.m (x0 : api_Cell) : Option Bool :=
  (some x0.Field)

theorem field_Formatted_1.calls {B I : Gh} {h : Heap} {x0 : api_Cell} {r : Bool} (H : field_Formatted_1.m x0 = some r)  :
    Fc Tryd.prog 42 #[.agg #[.bool x0.Field, .bool x0.Attr.Protected, .bool x0.Attr.Numeric, .int .i64 x0.Attr.Show, .bool x0.Attr.Modified, .int .u8 x0.Char]] [] B I h (fun v L => v = .bool r ∧ L = []) := by
 refine fc_of fun E hs => ?_
 unfold field_Formatted_1.m at H
 refine fn_of (args := [.agg #[.bool x0.Field, .bool x0.Attr.Protected, .bool x0.Attr.Numeric, .int .i64 x0.Attr.Show, .bool x0.Attr.Modified, .int .u8 x0.Char]]) (rs := [.tmp 2]) (N := 5) Tryd.func42 rfl rfl rfl rfl ?_
 refine st 2 [] (k_op (nB hs [.bool x0.Field, .bool x0.Attr.Protected, .bool x0.Attr.Numeric, .int .i64 x0.Attr.Show, .bool x0.Attr.Modified, .int .u8 x0.Char] ?_))
 intro b21 h hs
 refine st 5 [] (k_op (lB (hs.bl d0) 0 rfl ?_))
 refine st 2 [] ?_
 refine k_retQ ?_
 obtain rfl := Option.some.inj H
 exact ⟨_, by kernel_rfl, I, _, ⟨rfl, rfl⟩, hs.pk .n⟩

/-! slices.IndexFunc[[]shutter/api.Cell,shutter/api.Cell] -/
def slices_IndexFunc_api_Cell__field_Formatted_1.l1.m (K : Nat) (x0 : (List api_Cell)) : Nat → Int → Option (Int ⊕ (Unit))
  | 0, _ => none
  | k + 1, x25 => (letJ (α := Bool → Option (Int ⊕ (Unit))) (fun (x30 : Bool) => (bif x30 then (if 0 ≤ x25 then (if x25 < (x0.length : Int) then ((field_Formatted_1.m (⟨(at_ x0 x25).Field, ((at_ x0 x25).Attr), (at_ x0 x25).Char⟩ : api_Cell)).bind fun t37 => bif t37 then (some (Sum.inl x25)) else (slices_IndexFunc_api_Cell__field_Formatted_1.l1.m K x0 k (w64 (x25 + 1)))) else none) else none) else (some (Sum.inr ())))) fun (j31 : Bool → Option (Int ⊕ (Unit))) => (if x25 < (x0.length : Int) then (j31 true) else (j31 false)))
def slices_IndexFunc_api_Cell__field_Formatted_1.m (K : Nat) (x0 : (List api_Cell)) : Option Int :=
  ((slices_IndexFunc_api_Cell__field_Formatted_1.l1.m K x0 K 0).bind fun s26 => match s26 with | .inl q => (some q) | .inr _ => (some (-1)))

theorem slices_IndexFunc_api_Cell__field_Formatted_1.calls {B I : Gh} {h : Heap} {K : Nat} {x0 : (List api_Cell)} {a21 : Option Addr} {p22 : Nat} {n23 : Nat} {r : Int} (H : slices_IndexFunc_api_Cell__field_Formatted_1.m K x0 = some r)  :
    Fc Tryd.prog 50 #[.slice a21 n23 p22, .func (.func 42) #[] #[]] [rR t_api_Cell .b a21 p22 n23 x0] B I h (fun v L => v = .int .i64 r ∧ L = []) := by
 refine fc_of fun E hs => ?_
 unfold slices_IndexFunc_api_Cell__field_Formatted_1.m at H
 obtain rfl := hs.nR d0
 refine fn_of (args := [.slice a21 x0.length p22, .func (.func 42) #[] #[]]) (rs := [.tmp 4]) (N := 19) Tryd.func50 rfl rfl rfl rfl ?_
 refine st 12 [] ?_
 obtain ⟨s26, m28, HR27⟩ := bind_some H
 refine k_loop 0 (fun k' ρ h => ∃ (x25 : Int) (I : Gh), slices_IndexFunc_api_Cell__field_Formatted_1.l1.m K x0 k' x25 = some s26 ∧ Fits [(0, .slice a21 x0.length p22), (1, .func (.func 42) #[] #[]), (7, .int .i64 (x0.length : Int)), (8, .int .i64 x25)] ρ ∧ St E [rR t_api_Cell .b a21 p22 x0.length x0] I h) (fun ρ h => ∃ (I : Gh), Sum.inr () = s26 ∧ Fits [] ρ ∧ St E [] I h) K ⟨0, I, m28, ⟨by kernel_rfl, by kernel_rfl, by kernel_rfl, by kernel_rfl, trivial⟩, hs.pk (.c d0 .n)⟩ ?_ rfl ?_
 ·clear m28 H
  rintro k' ρ h ⟨x25, I, H, hf, hs⟩
  cases k' with
  | zero => cases H
  | succ k =>
   rw [slices_IndexFunc_api_Cell__field_Formatted_1.l1.m] at H
   refine k_fits _ hf ?_ rfl
   refine st 1 [] ?_
   obtain ⟨j31, e38, H⟩ := letJ_some H
   refine k_join (fun ρ h => ∃ (x30 : Bool) (I : Gh), j31 x30 = some s26 ∧ Fits [(0, .slice a21 x0.length p22), (1, .func (.func 42) #[] #[]), (7, .int .i64 (x0.length : Int)), (8, .int .i64 x25), (9, .bool x30)] ρ ∧ St E [rR t_api_Cell .b a21 p22 x0.length x0] I h) ?_ ?_
   ·refine st 1 [] (k_ite H (fun c29 H => ?_) (fun c29 H => ?_))
    ·refine st 1 [] ?_
     exact k_end ⟨true, I, H, ⟨by kernel_rfl, by kernel_rfl, by kernel_rfl, by kernel_rfl, by kernel_rfl, trivial⟩, hs.pk (.c d0 .n)⟩
    ·refine st 1 [] ?_
     exact k_end ⟨false, I, H, ⟨by kernel_rfl, by kernel_rfl, by kernel_rfl, by kernel_rfl, by kernel_rfl, trivial⟩, hs.pk (.c d0 .n)⟩
   ·clear H
    rintro ρ h ⟨x30, I, H, hf, hs⟩
    refine k_fits _ hf ?_ rfl
    subst e38
    try dsimp only at H
    cases x30
    ·rw [cond_false] at H
     refine st 2 [false] ?_
     refine k_out rfl ?_
     obtain rfl := Option.some.inj H
     exact xE ⟨I, rfl, trivial, hs.pk .n⟩
    ·rw [cond_true] at H
     obtain ⟨c32, H⟩ := guard_pos H
     obtain ⟨c33, H⟩ := guard_pos H
     refine st 15 [true] (k_val (elemPtr a21 (x25.toNat * 6)) (pI (e := 66) (ik := .i64) (hs.sR d0) c32 c33) ?_)
     obtain ⟨y35, g34, q36⟩ := (hs.sR d0).toSl.seg c32 c33
     obtain rfl := t_api_Cell.open_ q36
     refine k_op (lG g34 ?_)
     obtain ⟨hk, bk⟩ := hs.call tk0 .n
     refine k_call H (fun _ m => field_Formatted_1.calls m hk) ?_
     rintro t37 _ h H ⟨I, _, ⟨rfl, rfl⟩, hk⟩
     replace hs := bk hk ct0 rfl
     cases t37
     ·rw [cond_false] at H
      refine st 8 [false] ?_
      exact k_endL ⟨k, Nat.lt_succ_self _, (w64 (x25 + 1)), I, H, ⟨by kernel_rfl, by kernel_rfl, by kernel_rfl, by kernel_rfl, trivial⟩, hs.pk (.c d0 .n)⟩
     ·rw [cond_true] at H
      refine st 7 [true] ?_
      refine k_retQ (krL ?_)
      obtain rfl := Option.some.inj H
      obtain rfl := Option.some.inj HR27
      exact ⟨_, by kernel_rfl, I, _, ⟨rfl, rfl⟩, hs.pk .n⟩
 ·rintro ρ h ⟨I, rfl, hf, hs⟩
  have H := HR27
  try dsimp only at H
  refine k_fits _ hf ?_ rfl
  refine st 4 [] ?_
  refine k_retQ ?_
  obtain rfl := Option.some.inj H
  exact ⟨_, by kernel_rfl, I, _, ⟨rfl, rfl⟩, hs.pk .n⟩

/-! slices.ContainsFunc[[]shutter/api.Cell,shutter/api.Cell] -/
def slices_ContainsFunc_api_Cell__field_Formatted_1.m (K : Nat) (x0 : (List api_Cell)) : Option Bool :=
  ((slices_IndexFunc_api_Cell__field_Formatted_1.m K x0).bind fun t25 => (some (decide (t25 ≥ 0))))

theorem slices_ContainsFunc_api_Cell__field_Formatted_1.calls {B I : Gh} {h : Heap} {K : Nat} {x0 : (List api_Cell)} {a21 : Option Addr} {p22 : Nat} {n23 : Nat} {r : Bool} (H : slices_ContainsFunc_api_Cell__field_Formatted_1.m K x0 = some r)  :
    Fc Tryd.prog 41 #[.slice a21 n23 p22, .func (.func 42) #[] #[]] [rR t_api_Cell .b a21 p22 n23 x0] B I h (fun v L => v = .bool r ∧ L = []) := by
 refine fc_of fun E hs => ?_
 unfold slices_ContainsFunc_api_Cell__field_Formatted_1.m at H
 obtain rfl := hs.nR d0
 refine fn_of (args := [.slice a21 x0.length p22, .func (.func 42) #[] #[]]) (rs := [.tmp 4]) (N := 9) Tryd.func41 rfl rfl rfl rfl ?_
 obtain ⟨hk, bk⟩ := hs.call tk0 (.c (qB d0) .n)
 refine st 8 [] (k_call H (fun _ m => slices_IndexFunc_api_Cell__field_Formatted_1.calls m hk) ?_)
 rintro t25 _ h H ⟨I, _, ⟨rfl, rfl⟩, hk⟩
 replace hs := bk hk ct0 rfl
 refine st 3 [] ?_
 refine k_retQ ?_
 obtain rfl := Option.some.inj H
 exact ⟨_, by kernel_rfl, I, _, ⟨rfl, rfl⟩, hs.pk .n⟩

/-! shutter/field.Formatted -/
def field_Formatted.m (K : Nat) (x0 : api_Screen) : Option Bool :=
  ((slices_ContainsFunc_api_Cell__field_Formatted_1.m K x0.Cells).bind fun t26 => (some t26))

theorem field_Formatted.calls {B I : Gh} {h : Heap} {K : Nat} {x0 : api_Screen} {a21 : Option Addr} {p22 : Nat} {n23 : Nat} {r : Bool} (H : field_Formatted.m K x0 = some r)  :
    Fc Tryd.prog 29 #[.agg #[.int .i64 x0.Rows, .int .i64 x0.Cols, .slice a21 n23 p22, .int .i64 x0.Cursor, .bool x0.Locked, .bool x0.Insert]] [rR t_api_Cell .b a21 p22 n23 x0.Cells] B I h (fun v L => v = .bool r ∧ L = []) := by
 refine fc_of fun E hs => ?_
 unfold field_Formatted.m at H
 obtain rfl := hs.nR d0
 refine fn_of (args := [.agg #[.int .i64 x0.Rows, .int .i64 x0.Cols, .slice a21 x0.Cells.length p22, .int .i64 x0.Cursor, .bool x0.Locked, .bool x0.Insert]]) (rs := [.tmp 2]) (N := 6) Tryd.func29 rfl rfl rfl rfl ?_
 refine st 2 [] (k_op (nB hs [.int .i64 x0.Rows, .int .i64 x0.Cols, .slice a21 x0.Cells.length p22, .int .i64 x0.Cursor, .bool x0.Locked, .bool x0.Insert] ?_))
 intro b25 h hs
 refine st 5 [] (k_op (lB (hs.bl d0) 2 rfl ?_))
 obtain ⟨hk, bk⟩ := hs.call tk0 (.c (qB d1) .n)
 refine k_call H (fun _ m => slices_ContainsFunc_api_Cell__field_Formatted_1.calls m hk) ?_
 rintro t26 _ h H ⟨I, _, ⟨rfl, rfl⟩, hk⟩
 replace hs := bk hk ct0 rfl
 refine st 2 [] ?_
 refine k_retQ ?_
 obtain rfl := Option.some.inj H
 exact ⟨_, by kernel_rfl, I, _, ⟨rfl, rfl⟩, hs.pk .n⟩

/-! shutter/read.letters -/
def read_letters.l1.m (K : Nat) (x0 : api_Screen) (x1 : (List Int)) : Nat → (List Int) → Int → Option ((List Int))
  | 0, _, _ => none
  | k + 1, x30, x35 => (letJ (α := Bool → Option ((List Int))) (fun (x45 : Bool) => (bif x45 then (if 0 ≤ x35 then (if x35 < (x1.length : Int) then (if 0 ≤ (at_ x1 x35) then (if (at_ x1 x35) < (x0.Cells.length : Int) then (bif (at_ x0.Cells (at_ x1 x35)).Field then (read_letters.l1.m K x0 x1 k x30 (w64 (x35 + 1))) else (if (at_ x0.Cells (at_ x1 x35)).Char = 0 then (read_letters.l1.m K x0 x1 k x30 (w64 (x35 + 1))) else ((app x30 [(at_ x0.Cells (at_ x1 x35)).Char]).bind fun l59 => (read_letters.l1.m K x0 x1 k l59 (w64 (x35 + 1)))))) else none) else none) else none) else none) else (some (x30)))) fun (j46 : Bool → Option ((List Int))) => (if x35 < (x1.length : Int) then (j46 true) else (j46 false)))
def read_letters.m (K : Nat) (x0 : api_Screen) (x1 : (List Int)) : Option (List Int) :=
  ((read_letters.l1.m K x0 x1 K [] 0).bind fun x37 => (some x37))

theorem read_letters.calls {B I : Gh} {h : Heap} {K : Nat} {x0 : api_Screen} {x1 : (List Int)} {a21 : Option Addr} {p22 : Nat} {n23 : Nat} {a25 : Option Addr} {p26 : Nat} {n27 : Nat} {r : (List Int)} (H : read_letters.m K x0 x1 = some r)  :
    Fc Tryd.prog 30 #[.agg #[.int .i64 x0.Rows, .int .i64 x0.Cols, .slice a21 n23 p22, .int .i64 x0.Cursor, .bool x0.Locked, .bool x0.Insert], .slice a25 n27 p26] [rR t_api_Cell .b a21 p22 n23 x0.Cells, rR (tInt .i64) .b a25 p26 n27 x1] B I h (fun v L => ∃ (a65 : Option Addr) (p66 : Nat) (n67 : Nat), v = .slice a65 n67 p66 ∧ L = [rO (tInt .u8) .i a65 p66 n67 r]) := by
 refine fc_of fun E hs => ?_
 unfold read_letters.m at H
 obtain rfl := hs.nR d0
 obtain rfl := hs.nR d1
 refine fn_of (args := [.agg #[.int .i64 x0.Rows, .int .i64 x0.Cols, .slice a21 x0.Cells.length p22, .int .i64 x0.Cursor, .bool x0.Locked, .bool x0.Insert], .slice a25 x1.length p26]) (rs := [.tmp 4]) (N := 35) Tryd.func30 rfl rfl rfl rfl ?_
 refine st 2 [] (k_op (nB hs [.int .i64 x0.Rows, .int .i64 x0.Cols, .slice a21 x0.Cells.length p22, .int .i64 x0.Cursor, .bool x0.Locked, .bool x0.Insert] ?_))
 intro b29 h hs
 refine st 14 [] ?_
 obtain ⟨s36, m43, HR42⟩ := bind_some H
 refine k_loop 0 (fun k' ρ h => ∃ (x30 : List Int) (x35 : Int) (a31 : Option Addr) (p32 : Nat) (n33 : Nat) (I : Gh), read_letters.l1.m K x0 x1 k' x30 x35 = some s36 ∧ Fits [(2, .pointer (some ⟨b29, 0, none⟩)), (5, .slice a31 n33 p32), (9, .slice a25 x1.length p26), (10, .int .i64 (x1.length : Int)), (11, .int .i64 x35)] ρ ∧ St E [rO (tInt .u8) .i a31 p32 n33 x30, rR (tInt .i64) .b a25 p26 x1.length x1, rR t_api_Cell .b a21 p22 x0.Cells.length x0.Cells, rB b29 [.int .i64 x0.Rows, .int .i64 x0.Cols, .slice a21 x0.Cells.length p22, .int .i64 x0.Cursor, .bool x0.Locked, .bool x0.Insert] 31] I h) (fun ρ h => ∃ (x37 : List Int) (a38 : Option Addr) (p39 : Nat) (n40 : Nat) (I : Gh), x37 = s36 ∧ Fits [(5, .slice a38 n40 p39)] ρ ∧ St E [rO (tInt .u8) .i a38 p39 n40 x37] I h) K ⟨[], 0, none, 0, 0, I, m43, ⟨by kernel_rfl, by kernel_rfl, by kernel_rfl, by kernel_rfl, by kernel_rfl, trivial⟩, hs.pk (.f imON (.c d2 (.c d1 (.c d0 .n))))⟩ ?_ rfl ?_
 ·clear HR42 m43 H
  rintro k' ρ h ⟨x30, x35, a31, p32, n33, I, H, hf, hs⟩
  cases k' with
  | zero => cases H
  | succ k =>
   rw [read_letters.l1.m] at H
   refine k_fits _ hf ?_ rfl
   obtain rfl := hs.nO d0
   refine st 1 [] ?_
   obtain ⟨j46, e64, H⟩ := letJ_some H
   refine k_join (fun ρ h => ∃ (x45 : Bool) (I : Gh), j46 x45 = some s36 ∧ Fits [(2, .pointer (some ⟨b29, 0, none⟩)), (5, .slice a31 x30.length p32), (9, .slice a25 x1.length p26), (10, .int .i64 (x1.length : Int)), (11, .int .i64 x35), (12, .bool x45)] ρ ∧ St E [rO (tInt .u8) .i a31 p32 x30.length x30, rR (tInt .i64) .b a25 p26 x1.length x1, rR t_api_Cell .b a21 p22 x0.Cells.length x0.Cells, rB b29 [.int .i64 x0.Rows, .int .i64 x0.Cols, .slice a21 x0.Cells.length p22, .int .i64 x0.Cursor, .bool x0.Locked, .bool x0.Insert] 31] I h) ?_ ?_
   ·refine st 1 [] (k_ite H (fun c44 H => ?_) (fun c44 H => ?_))
    ·refine st 1 [] ?_
     exact k_end ⟨true, I, H, ⟨by kernel_rfl, by kernel_rfl, by kernel_rfl, by kernel_rfl, by kernel_rfl, by kernel_rfl, trivial⟩, hs.pk (.c d0 (.c d0 (.c d0 (.c d0 .n))))⟩
    ·refine st 1 [] ?_
     exact k_end ⟨false, I, H, ⟨by kernel_rfl, by kernel_rfl, by kernel_rfl, by kernel_rfl, by kernel_rfl, by kernel_rfl, trivial⟩, hs.pk (.c d0 (.c d0 (.c d0 (.c d0 .n))))⟩
   ·clear H
    rintro ρ h ⟨x45, I, H, hf, hs⟩
    refine k_fits _ hf ?_ rfl
    subst e64
    try dsimp only at H
    cases x45
    ·rw [cond_false] at H
     refine st 2 [false] ?_
     refine k_out rfl ?_
     obtain rfl := Option.some.inj H
     exact xE ⟨x30, a31, p32, x30.length, I, rfl, ⟨by kernel_rfl, trivial⟩, hs.pk (.c d0 .n)⟩
    ·rw [cond_true] at H
     obtain ⟨c47, H⟩ := guard_pos H
     obtain ⟨c48, H⟩ := guard_pos H
     refine st 7 [true] (k_val (elemPtr a25 (x35.toNat * 1)) (pI (e := 3) (ik := .i64) (hs.sR d1) c47 c48) ?_)
     refine k_op (lC ((hs.sR d1).cell1 c47 c48) ?_)
     refine st 5 [] (k_op (lB (hs.bl d3) 2 rfl ?_))
     obtain ⟨c49, H⟩ := guard_pos H
     obtain ⟨c50, H⟩ := guard_pos H
     refine st 1 [] (k_val (elemPtr a21 ((at_ x1 x35).toNat * 6)) (pI (e := 66) (ik := .i64) (hs.sR d2) c49 c50) ?_)
     obtain ⟨y52, g51, q53⟩ := (hs.sR d2).toSl.seg c49 c50
     obtain rfl := t_api_Cell.open_ q53
     refine k_op (lG g51 ?_)
     refine k_op (nA hs [.bool false, .bool false, .bool false, .int .i64 0, .bool false, .int .u8 0] (.agg #[.bool false, .bool false, .bool false, .int .i64 0, .bool false, .int .u8 0]) ?_)
     intro b54 h hs
     refine k_op (sN hs 0 [.bool ((at_ x0.Cells (at_ x1 x35)).Field), .bool (((at_ x0.Cells (at_ x1 x35)).Attr).Protected), .bool (((at_ x0.Cells (at_ x1 x35)).Attr).Numeric), .int .i64 (((at_ x0.Cells (at_ x1 x35)).Attr).Show), .bool (((at_ x0.Cells (at_ x1 x35)).Attr).Modified), .int .u8 ((at_ x0.Cells (at_ x1 x35)).Char)] [.bool ((at_ x0.Cells (at_ x1 x35)).Field), .bool (((at_ x0.Cells (at_ x1 x35)).Attr).Protected), .bool (((at_ x0.Cells (at_ x1 x35)).Attr).Numeric), .int .i64 (((at_ x0.Cells (at_ x1 x35)).Attr).Show), .bool (((at_ x0.Cells (at_ x1 x35)).Attr).Modified), .int .u8 ((at_ x0.Cells (at_ x1 x35)).Char)] (ones_of rfl) ?_)
     intro h hs
     refine st 4 [] (k_op (lB (hs.bl d0) 0 rfl ?_))
     refine k_spl H (fun c55 H => ?_) (fun c55 H => ?_)
     ·refine st 14 [false] ?_
      exact k_endL ⟨k, Nat.lt_succ_self _, x30, (w64 (x35 + 1)), a31, p32, x30.length, I, H, ⟨by kernel_rfl, by kernel_rfl, by kernel_rfl, by kernel_rfl, by kernel_rfl, trivial⟩, hs.pk (.c d1 (.c d1 (.c d1 (.c d1 .n))))⟩
     ·refine st 3 [] (k_op (lB (hs.bl d0) 5 rfl ?_))
      refine k_iteN H (fun c56 H => ?_) (fun c56 H => ?_)
      ·refine st 9 [false] ?_
       exact k_endL ⟨k, Nat.lt_succ_self _, x30, (w64 (x35 + 1)), a31, p32, x30.length, I, H, ⟨by kernel_rfl, by kernel_rfl, by kernel_rfl, by kernel_rfl, by kernel_rfl, trivial⟩, hs.pk (.c d1 (.c d1 (.c d1 (.c d1 .n))))⟩
      ·refine st 6 [true] (k_op (lB (hs.bl d0) 5 rfl ?_))
       refine k_op (nS (e := 5) hs .i (tInt .u8) ([(at_ x0.Cells (at_ x1 x35)).Char] : List Int) [.int .u8 ((at_ x0.Cells (at_ x1 x35)).Char)] 1 (.int .u8 0) (Reps.int (I := (Cl.G .i E.B I)) (k := .u8) (l := [(at_ x0.Cells (at_ x1 x35)).Char])) ?_)
       intro b57 h hs
       replace hs := (hs.f d2)
       obtain ⟨l59, m60, H⟩ := bind_some H
       refine k_op (aO (e := 5) (bytes := 1) hs (hs.sO d1) m60 ?_)
       intro a61 p62 h hs
       refine st 7 [] ?_
       exact k_endL ⟨k, Nat.lt_succ_self _, l59, (w64 (x35 + 1)), a61, p62, l59.length, I, H, ⟨by kernel_rfl, by kernel_rfl, by kernel_rfl, by kernel_rfl, by kernel_rfl, trivial⟩, hs.pk (.c d0 (.c d2 (.c d2 (.c d2 .n))))⟩
 ·rintro ρ h ⟨x37, a38, p39, n40, I, rfl, hf, hs⟩
  have H := HR42
  try dsimp only at H
  refine k_fits _ hf ?_ rfl
  obtain rfl := hs.nO d0
  refine st 5 [] ?_
  refine k_retQ ?_
  obtain rfl := Option.some.inj H
  exact ⟨_, by kernel_rfl, I, _, ⟨a38, p39, x37.length, rfl, rfl⟩, hs.pk (.c d0 .n)⟩

/-! shutter/field.sign -/
def field_sign.m (x0 : Int) : Option Int :=
  (if x0 < 0 then (some (-1)) else (some 1))

theorem field_sign.calls {x0 : Int} {h : Heap} {r : Int} (H : field_sign.m x0 = some r)   :
    Ret Tryd.prog 52 #[.int .i64 x0] h (fun v h' => .int .i64 r = v ∧ h' = h) := by
 unfold field_sign.m at H
 refine fn_of (args := [.int .i64 x0]) (rs := [.tmp 2]) (N := 5) Tryd.func52 rfl rfl rfl rfl ?_
 refine st 8 [] (k_ite H (fun c21 H => ?_) (fun c21 H => ?_))
 ·refine st 6 [true] ?_
  refine k_retQ ?_
  obtain rfl := Option.some.inj H
  exact ⟨_, by kernel_rfl, rfl, rfl⟩
 ·refine st 7 [false] ?_
  refine k_retQ ?_
  obtain rfl := Option.some.inj H
  exact ⟨_, by kernel_rfl, rfl, rfl⟩

end Go.Proofs.YtfbcjibdgicaoaaDoor.Sx
