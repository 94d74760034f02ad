/- Printed walks, part 0: each function's model, and that the code comes to it. -/
import Derived.Test.YtfbcjibdgicaoaaGreatDoorProg
import Derived.Test.YtfbcjibdgicaoaaGreatDoorV4
import Derived.Test.YtfbcjibdgicaoaaGreatDoorVF
import Derived.Test.YtfbcjibdgicaoaaGreatDoorV6
import Derived.Test.YtfbcjibdgicaoaaGreatDoorV7
namespace Go.Proofs.YtfbcjibdgicaoaaGreatDoor.Sx
open Go
set_option maxRecDepth 100000
set_option maxHeartbeats 4000000

structure api_Attr where
  Protected : Bool
  Numeric : Bool
  Show : Int
  Modified : Bool
  deriving DecidableEq, Inhabited

def t_api_Attr : Ty api_Attr where
  size := 4
  rep I h cs x := cs = [.bool x.Protected, .bool x.Numeric, .int .i64 x.Show, .bool x.Modified]
  len := by rintro _ _ _ _ rfl; rfl
  one := by
    rintro _ _ _ _ rfl v hv
    simp only [List.mem_cons, List.not_mem_nil, or_false] at hv
    rcases hv with rfl | rfl | rfl | rfl
    · exact rfl
    · exact rfl
    · exact rfl
    · exact rfl
  up := by intro _ _ _ _ _ _ _ e; exact e
theorem t_api_Attr.open_ {I : Gh} {h : Heap} {cs : List Value} {x : api_Attr} (r : t_api_Attr.rep I h cs x) : cs = [.bool x.Protected, .bool x.Numeric, .int .i64 x.Show, .bool x.Modified] := r

structure api_Cell where
  Field : Bool
  Attr : api_Attr
  Char : Int
  deriving DecidableEq, Inhabited

def t_api_Cell : Ty api_Cell where
  size := 6
  rep I h cs x := cs = [.bool x.Field, .bool x.Attr.Protected, .bool x.Attr.Numeric, .int .i64 x.Attr.Show, .bool x.Attr.Modified, .int .u8 x.Char]
  len := by rintro _ _ _ _ rfl; rfl
  one := by
    rintro _ _ _ _ rfl v hv
    simp only [List.mem_cons, List.not_mem_nil, or_false] at hv
    rcases hv with rfl | rfl | rfl | rfl | rfl | rfl
    · exact rfl
    · exact rfl
    · exact rfl
    · exact rfl
    · exact rfl
    · exact rfl
  up := by intro _ _ _ _ _ _ _ e; exact e
theorem t_api_Cell.open_ {I : Gh} {h : Heap} {cs : List Value} {x : api_Cell} (r : t_api_Cell.rep I h cs x) : cs = [.bool x.Field, .bool x.Attr.Protected, .bool x.Attr.Numeric, .int .i64 x.Attr.Show, .bool x.Attr.Modified, .int .u8 x.Char] := r

structure api_Screen where
  Rows : Int
  Cols : Int
  Cells : (List api_Cell)
  Cursor : Int
  Locked : Bool
  Insert : Bool
  deriving DecidableEq, Inhabited

def t_api_Screen : Ty api_Screen where
  size := 6
  rep I h cs x := ∃ a_2, ∃ c_2, ∃ n_2, cs = [.int .i64 x.Rows, .int .i64 x.Cols, .slice a_2 n_2 c_2, .int .i64 x.Cursor, .bool x.Locked, .bool x.Insert] ∧ (Rd t_api_Cell I h a_2 c_2 x.Cells ∧ x.Cells.length = n_2)
  len := by rintro _ _ _ _ ⟨_, _, _, rfl, _⟩; rfl
  one := by
    rintro _ _ _ _ ⟨e0, e1, e2, rfl, q0⟩ v hv
    simp only [List.mem_cons, List.not_mem_nil, or_false] at hv
    rcases hv with rfl | rfl | rfl | rfl | rfl | rfl
    · exact rfl
    · exact rfl
    · exact rfl
    · exact rfl
    · exact rfl
    · exact rfl
  up := by rintro _ _ _ _ _ _ u ⟨e0, e1, e2, rfl, q0⟩; exact ⟨e0, e1, e2, rfl, ⟨q0.1.up u, q0.2⟩⟩
theorem t_api_Screen.open_ {I : Gh} {h : Heap} {cs : List Value} {x : api_Screen} (r : t_api_Screen.rep I h cs x) : ∃ a_2, ∃ c_2, ∃ n_2, cs = [.int .i64 x.Rows, .int .i64 x.Cols, .slice a_2 n_2 c_2, .int .i64 x.Cursor, .bool x.Locked, .bool x.Insert] ∧ (Rd t_api_Cell I h a_2 c_2 x.Cells ∧ x.Cells.length = n_2) := r

structure api_Entry where
  Addr : Int
  Text : (List Int)
  deriving DecidableEq, Inhabited

def t_api_Entry : Ty api_Entry where
  size := 2
  rep I h cs x := ∃ a_1, ∃ c_1, ∃ n_1, cs = [.int .i64 x.Addr, .slice a_1 n_1 c_1] ∧ (Rd (tInt .u8) I h a_1 c_1 x.Text ∧ x.Text.length = n_1)
  len := by rintro _ _ _ _ ⟨_, _, _, rfl, _⟩; rfl
  one := by
    rintro _ _ _ _ ⟨e0, e1, e2, rfl, q0⟩ v hv
    simp only [List.mem_cons, List.not_mem_nil, or_false] at hv
    rcases hv with rfl | rfl
    · exact rfl
    · exact rfl
  up := by rintro _ _ _ _ _ _ u ⟨e0, e1, e2, rfl, q0⟩; exact ⟨e0, e1, e2, rfl, ⟨q0.1.up u, q0.2⟩⟩
theorem t_api_Entry.open_ {I : Gh} {h : Heap} {cs : List Value} {x : api_Entry} (r : t_api_Entry.rep I h cs x) : ∃ a_1, ∃ c_1, ∃ n_1, cs = [.int .i64 x.Addr, .slice a_1 n_1 c_1] ∧ (Rd (tInt .u8) I h a_1 c_1 x.Text ∧ x.Text.length = n_1) := r

structure api_In where
  Aid : Int
  Cursor : Int
  Fields : (List api_Entry)
  deriving DecidableEq, Inhabited

def t_api_In : Ty api_In where
  size := 3
  rep I h cs x := ∃ a_2, ∃ c_2, ∃ n_2, cs = [.int .u8 x.Aid, .int .i64 x.Cursor, .slice a_2 n_2 c_2] ∧ (Rd t_api_Entry I h a_2 c_2 x.Fields ∧ x.Fields.length = n_2)
  len := by rintro _ _ _ _ ⟨_, _, _, rfl, _⟩; rfl
  one := by
    rintro _ _ _ _ ⟨e0, e1, e2, rfl, q0⟩ v hv
    simp only [List.mem_cons, List.not_mem_nil, or_false] at hv
    rcases hv with rfl | rfl | rfl
    · exact rfl
    · exact rfl
    · exact rfl
  up := by rintro _ _ _ _ _ _ u ⟨e0, e1, e2, rfl, q0⟩; exact ⟨e0, e1, e2, rfl, ⟨q0.1.up u, q0.2⟩⟩
theorem t_api_In.open_ {I : Gh} {h : Heap} {cs : List Value} {x : api_In} (r : t_api_In.rep I h cs x) : ∃ a_2, ∃ c_2, ∃ n_2, cs = [.int .u8 x.Aid, .int .i64 x.Cursor, .slice a_2 n_2 c_2] ∧ (Rd t_api_Entry I h a_2 c_2 x.Fields ∧ x.Fields.length = n_2) := r

structure api_Order where
  Kind : Int
  Text : (List Int)
  Attr : api_Attr
  Addr : Int
  Char : Int
  deriving DecidableEq, Inhabited

def t_api_Order : Ty api_Order where
  size := 8
  rep I h cs x := ∃ a_1, ∃ c_1, ∃ n_1, cs = [.int .i64 x.Kind, .slice a_1 n_1 c_1, .bool x.Attr.Protected, .bool x.Attr.Numeric, .int .i64 x.Attr.Show, .bool x.Attr.Modified, .int .i64 x.Addr, .int .u8 x.Char] ∧ (Rd (tInt .u8) I h a_1 c_1 x.Text ∧ x.Text.length = n_1)
  len := by rintro _ _ _ _ ⟨_, _, _, rfl, _⟩; rfl
  one := by
    rintro _ _ _ _ ⟨e0, e1, e2, rfl, q0⟩ v hv
    simp only [List.mem_cons, List.not_mem_nil, or_false] at hv
    rcases hv with rfl | rfl | rfl | rfl | rfl | rfl | rfl | rfl
    · exact rfl
    · exact rfl
    · exact rfl
    · exact rfl
    · exact rfl
    · exact rfl
    · exact rfl
    · exact rfl
  up := by rintro _ _ _ _ _ _ u ⟨e0, e1, e2, rfl, q0⟩; exact ⟨e0, e1, e2, rfl, ⟨q0.1.up u, q0.2⟩⟩
theorem t_api_Order.open_ {I : Gh} {h : Heap} {cs : List Value} {x : api_Order} (r : t_api_Order.rep I h cs x) : ∃ a_1, ∃ c_1, ∃ n_1, cs = [.int .i64 x.Kind, .slice a_1 n_1 c_1, .bool x.Attr.Protected, .bool x.Attr.Numeric, .int .i64 x.Attr.Show, .bool x.Attr.Modified, .int .i64 x.Addr, .int .u8 x.Char] ∧ (Rd (tInt .u8) I h a_1 c_1 x.Text ∧ x.Text.length = n_1) := r

structure Anon_is_n where
  is' : Bool
  n' : Int
  deriving DecidableEq, Inhabited

def t_Anon_is_n : Ty Anon_is_n where
  size := 2
  rep I h cs x := cs = [.bool x.is', .int .i64 x.n']
  len := by rintro _ _ _ _ rfl; rfl
  one := by
    rintro _ _ _ _ rfl v hv
    simp only [List.mem_cons, List.not_mem_nil, or_false] at hv
    rcases hv with rfl | rfl
    · exact rfl
    · exact rfl
  up := by intro _ _ _ _ _ _ _ e; exact e
theorem t_Anon_is_n.open_ {I : Gh} {h : Heap} {cs : List Value} {x : Anon_is_n} (r : t_Anon_is_n.rep I h cs x) : cs = [.bool x.is', .int .i64 x.n'] := r

structure api_Wcc where
  Alarm : Bool
  Unlock : Bool
  Reset : Bool
  deriving DecidableEq, Inhabited

def t_api_Wcc : Ty api_Wcc where
  size := 3
  rep I h cs x := cs = [.bool x.Alarm, .bool x.Unlock, .bool x.Reset]
  len := by rintro _ _ _ _ rfl; rfl
  one := by
    rintro _ _ _ _ rfl v hv
    simp only [List.mem_cons, List.not_mem_nil, or_false] at hv
    rcases hv with rfl | rfl | rfl
    · exact rfl
    · exact rfl
    · exact rfl
  up := by intro _ _ _ _ _ _ _ e; exact e
theorem t_api_Wcc.open_ {I : Gh} {h : Heap} {cs : List Value} {x : api_Wcc} (r : t_api_Wcc.rep I h cs x) : cs = [.bool x.Alarm, .bool x.Unlock, .bool x.Reset] := r

structure api_Out where
  Cmd : Int
  Wcc : api_Wcc
  Orders : (List api_Order)
  deriving DecidableEq, Inhabited

def t_api_Out : Ty api_Out where
  size := 5
  rep I h cs x := ∃ a_2, ∃ c_2, ∃ n_2, cs = [.int .i64 x.Cmd, .bool x.Wcc.Alarm, .bool x.Wcc.Unlock, .bool x.Wcc.Reset, .slice a_2 n_2 c_2] ∧ (Rd t_api_Order I h a_2 c_2 x.Orders ∧ x.Orders.length = n_2)
  len := by rintro _ _ _ _ ⟨_, _, _, rfl, _⟩; rfl
  one := by
    rintro _ _ _ _ ⟨e0, e1, e2, rfl, q0⟩ v hv
    simp only [List.mem_cons, List.not_mem_nil, or_false] at hv
    rcases hv with rfl | rfl | rfl | rfl | rfl
    · exact rfl
    · exact rfl
    · exact rfl
    · exact rfl
    · exact rfl
  up := by rintro _ _ _ _ _ _ u ⟨e0, e1, e2, rfl, q0⟩; exact ⟨e0, e1, e2, rfl, ⟨q0.1.up u, q0.2⟩⟩
theorem t_api_Out.open_ {I : Gh} {h : Heap} {cs : List Value} {x : api_Out} (r : t_api_Out.rep I h cs x) : ∃ a_2, ∃ c_2, ∃ n_2, cs = [.int .i64 x.Cmd, .bool x.Wcc.Alarm, .bool x.Wcc.Unlock, .bool x.Wcc.Reset, .slice a_2 n_2 c_2] ∧ (Rd t_api_Order I h a_2 c_2 x.Orders ∧ x.Orders.length = n_2) := r

structure bytes_Cursor where
  b' : (List Int)
  at' : Int
  err' : GoErr
  deriving DecidableEq, Inhabited

def t_bytes_Cursor : Ty bytes_Cursor where
  size := 3
  rep I h cs x := ∃ a_0, ∃ c_0, ∃ n_0, ∃ v_2, cs = [.slice a_0 n_0 c_0, .int .i64 x.at', v_2] ∧ (Rd (tInt .u8) I h a_0 c_0 x.b' ∧ x.b'.length = n_0) ∧ ErrV I h x.err' v_2
  len := by rintro _ _ _ _ ⟨_, _, _, _, rfl, _, _⟩; rfl
  one := by
    rintro _ _ _ _ ⟨e0, e1, e2, e3, rfl, q0, q1⟩ v hv
    simp only [List.mem_cons, List.not_mem_nil, or_false] at hv
    rcases hv with rfl | rfl | rfl
    · exact rfl
    · exact rfl
    · exact q1.one
  up := by rintro _ _ _ _ _ _ u ⟨e0, e1, e2, e3, rfl, q0, q1⟩; exact ⟨e0, e1, e2, e3, rfl, ⟨q0.1.up u, q0.2⟩, q1.up u⟩
theorem t_bytes_Cursor.open_ {I : Gh} {h : Heap} {cs : List Value} {x : bytes_Cursor} (r : t_bytes_Cursor.rep I h cs x) : ∃ a_0, ∃ c_0, ∃ n_0, ∃ v_2, cs = [.slice a_0 n_0 c_0, .int .i64 x.at', v_2] ∧ (Rd (tInt .u8) I h a_0 c_0 x.b' ∧ x.b'.length = n_0) ∧ ErrV I h x.err' v_2 := r

structure paint_brush where
  s' : api_Screen
  at' : Int
  deriving DecidableEq, Inhabited

def t_paint_brush : Ty paint_brush where
  size := 7
  rep I h cs x := ∃ a_0_2, ∃ c_0_2, ∃ n_0_2, cs = [.int .i64 x.s'.Rows, .int .i64 x.s'.Cols, .slice a_0_2 n_0_2 c_0_2, .int .i64 x.s'.Cursor, .bool x.s'.Locked, .bool x.s'.Insert, .int .i64 x.at'] ∧ (Rd t_api_Cell I h a_0_2 c_0_2 x.s'.Cells ∧ x.s'.Cells.length = n_0_2)
  len := by rintro _ _ _ _ ⟨_, _, _, rfl, _⟩; rfl
  one := by
    rintro _ _ _ _ ⟨e0, e1, e2, rfl, q0⟩ v hv
    simp only [List.mem_cons, List.not_mem_nil, or_false] at hv
    rcases hv with rfl | rfl | rfl | rfl | rfl | rfl | rfl
    · exact rfl
    · exact rfl
    · exact rfl
    · exact rfl
    · exact rfl
    · exact rfl
    · exact rfl
  up := by rintro _ _ _ _ _ _ u ⟨e0, e1, e2, rfl, q0⟩; exact ⟨e0, e1, e2, rfl, ⟨q0.1.up u, q0.2⟩⟩
theorem t_paint_brush.open_ {I : Gh} {h : Heap} {cs : List Value} {x : paint_brush} (r : t_paint_brush.rep I h cs x) : ∃ a_0_2, ∃ c_0_2, ∃ n_0_2, cs = [.int .i64 x.s'.Rows, .int .i64 x.s'.Cols, .slice a_0_2 n_0_2 c_0_2, .int .i64 x.s'.Cursor, .bool x.s'.Locked, .bool x.s'.Insert, .int .i64 x.at'] ∧ (Rd t_api_Cell I h a_0_2 c_0_2 x.s'.Cells ∧ x.s'.Cells.length = n_0_2) := r

/-! shutter/attr.Bare -/
def attr_Bare.m (x0 : Int) : Option Bool :=
  (if x0 = 108 then (some true) else (if x0 = 110 then (some true) else (if x0 = 107 then (some true) else (if x0 = 109 then (some true) else (some false)))))

theorem attr_Bare.calls {x0 : Int} {h : Heap} {r : Bool} (H : attr_Bare.m x0 = some r)   :
    Ret Tryz.prog 42 #[.int .u8 x0] h (fun v h' => .bool r = v ∧ h' = h) := by
 unfold attr_Bare.m at H
 refine fn_of (args := [.int .u8 x0]) (rs := [.tmp 2]) (N := 10) Tryz.func42 rfl rfl rfl rfl ?_
 refine st 18 [] (k_ite H (fun c21 H => ?_) (fun c21 H => ?_))
 ·refine st 12 [true, true] ?_
  refine k_retQ ?_
  obtain rfl := Option.some.inj H
  exact ⟨_, by kernel_rfl, rfl, rfl⟩
 ·refine st 5 [false] (k_ite H (fun c22 H => ?_) (fun c22 H => ?_))
  ·refine st 12 [true, true] ?_
   refine k_retQ ?_
   obtain rfl := Option.some.inj H
   exact ⟨_, by kernel_rfl, rfl, rfl⟩
  ·refine st 4 [false] (k_ite H (fun c23 H => ?_) (fun c23 H => ?_))
   ·refine st 10 [true] ?_
    refine k_retQ ?_
    obtain rfl := Option.some.inj H
    exact ⟨_, by kernel_rfl, rfl, rfl⟩
   ·refine st 6 [false] (k_ite H (fun c24 H => ?_) (fun c24 H => ?_))
    ·refine st 9 [true] ?_
     refine k_retQ ?_
     obtain rfl := Option.some.inj H
     exact ⟨_, by kernel_rfl, rfl, rfl⟩
    ·refine st 9 [false] ?_
     refine k_retQ ?_
     obtain rfl := Option.some.inj H
     exact ⟨_, by kernel_rfl, rfl, rfl⟩

/-! shutter/attr.Aid -/
def attr_Aid.m (x0 : Int) : Option Bool :=
  ((attr_Bare.m x0).bind fun t21 => bif t21 then (some true) else (if x0 = 125 then (some true) else (if x0 ≥ 241 then (if x0 ≤ 249 then (some true) else (if x0 ≥ 122 then (some (decide (x0 ≤ 124))) else (some false))) else (if x0 ≥ 122 then (some (decide (x0 ≤ 124))) else (some false)))))

theorem attr_Aid.calls {x0 : Int} {h : Heap} {r : Bool} (H : attr_Aid.m x0 = some r)   :
    Ret Tryz.prog 41 #[.int .u8 x0] h (fun v h' => .bool r = v ∧ h' = h) := by
 unfold attr_Aid.m at H
 refine fn_of (args := [.int .u8 x0]) (rs := [.tmp 2]) (N := 25) Tryz.func41 rfl rfl rfl rfl ?_
 refine st 7 [] (k_call H (fun _ m => attr_Bare.calls m) ?_)
 rintro t21 _ _ H ⟨rfl, rfl⟩
 cases t21
 ·rw [cond_false] at H
  refine st 2 [] (k_ite H (fun c22 H => ?_) (fun c22 H => ?_))
  ·refine st 19 [] ?_
   refine k_retQ ?_
   obtain rfl := Option.some.inj H
   exact ⟨_, by kernel_rfl, rfl, rfl⟩
  ·refine st 3 [] (k_ite H (fun c23 H => ?_) (fun c23 H => ?_))
   ·refine st 2 [] (k_ite H (fun c24 H => ?_) (fun c24 H => ?_))
    ·refine st 12 [] ?_
     refine k_retQ ?_
     obtain rfl := Option.some.inj H
     exact ⟨_, by kernel_rfl, rfl, rfl⟩
    ·refine st 4 [] (k_ite H (fun c25 H => ?_) (fun c25 H => ?_))
     ·refine st 7 [] ?_
      refine k_retQ ?_
      obtain rfl := Option.some.inj H
      exact ⟨_, by kernel_rfl, rfl, rfl⟩
     ·refine st 7 [] ?_
      refine k_retQ ?_
      obtain rfl := Option.some.inj H
      exact ⟨_, by kernel_rfl, rfl, rfl⟩
   ·refine st 7 [] (k_ite H (fun c26 H => ?_) (fun c26 H => ?_))
    ·refine st 7 [] ?_
     refine k_retQ ?_
     obtain rfl := Option.some.inj H
     exact ⟨_, by kernel_rfl, rfl, rfl⟩
    ·refine st 7 [] ?_
     refine k_retQ ?_
     obtain rfl := Option.some.inj H
     exact ⟨_, by kernel_rfl, rfl, rfl⟩
 ·rw [cond_true] at H
  refine st 22 [] ?_
  refine k_retQ ?_
  obtain rfl := Option.some.inj H
  exact ⟨_, by kernel_rfl, rfl, rfl⟩

/-! shutter/field.Formatted$1 -/
def field_Formatted_1.m (x0 : api_Cell) : Option Bool :=
  (some x0.Field)

theorem field_Formatted_1.calls {B I : Gh} {h : Heap} {x0 : api_Cell} {r : Bool} (H : field_Formatted_1.m x0 = some r)  :
    Fc Tryz.prog 85 #[.agg #[.bool x0.Field, .bool x0.Attr.Protected, .bool x0.Attr.Numeric, .int .i64 x0.Attr.Show, .bool x0.Attr.Modified, .int .u8 x0.Char]] [] B I h (fun v L => v = .bool r ∧ L = []) := by
 refine fc_of fun E hs => ?_
 unfold field_Formatted_1.m at H
 refine fn_of (args := [.agg #[.bool x0.Field, .bool x0.Attr.Protected, .bool x0.Attr.Numeric, .int .i64 x0.Attr.Show, .bool x0.Attr.Modified, .int .u8 x0.Char]]) (rs := [.tmp 2]) (N := 5) Tryz.func85 rfl rfl rfl rfl ?_
 refine st 2 [] (k_op (nB hs [.bool x0.Field, .bool x0.Attr.Protected, .bool x0.Attr.Numeric, .int .i64 x0.Attr.Show, .bool x0.Attr.Modified, .int .u8 x0.Char] ?_))
 intro b21 h hs
 refine st 5 [] (k_op (lB (hs.bl d0) 0 rfl ?_))
 refine st 2 [] ?_
 refine k_retQ ?_
 obtain rfl := Option.some.inj H
 exact ⟨_, by kernel_rfl, I, _, ⟨rfl, rfl⟩, hs.pk .n⟩

/-! slices.IndexFunc[[]shutter/api.Cell,shutter/api.Cell] -/
def slices_IndexFunc_api_Cell__field_Formatted_1.l1.m (K : Nat) (x0 : (List api_Cell)) : Nat → Int → Option (Int ⊕ (Unit))
  | 0, _ => none
  | k + 1, x25 => (letJ (α := Bool → Option (Int ⊕ (Unit))) (fun (x30 : Bool) => (bif x30 then (if 0 ≤ x25 then (if x25 < (x0.length : Int) then ((field_Formatted_1.m (⟨(at_ x0 x25).Field, ((at_ x0 x25).Attr), (at_ x0 x25).Char⟩ : api_Cell)).bind fun t37 => bif t37 then (some (Sum.inl x25)) else (slices_IndexFunc_api_Cell__field_Formatted_1.l1.m K x0 k (w64 (x25 + 1)))) else none) else none) else (some (Sum.inr ())))) fun (j31 : Bool → Option (Int ⊕ (Unit))) => (if x25 < (x0.length : Int) then (j31 true) else (j31 false)))
def slices_IndexFunc_api_Cell__field_Formatted_1.m (K : Nat) (x0 : (List api_Cell)) : Option Int :=
  ((slices_IndexFunc_api_Cell__field_Formatted_1.l1.m K x0 K 0).bind fun s26 => match s26 with | .inl q => (some q) | .inr _ => (some (-1)))

theorem slices_IndexFunc_api_Cell__field_Formatted_1.calls {B I : Gh} {h : Heap} {K : Nat} {x0 : (List api_Cell)} {a21 : Option Addr} {p22 : Nat} {n23 : Nat} {r : Int} (H : slices_IndexFunc_api_Cell__field_Formatted_1.m K x0 = some r)  :
    Fc Tryz.prog 119 #[.slice a21 n23 p22, .func (.func 85) #[] #[]] [rR t_api_Cell .b a21 p22 n23 x0] B I h (fun v L => v = .int .i64 r ∧ L = []) := by
 refine fc_of fun E hs => ?_
 unfold slices_IndexFunc_api_Cell__field_Formatted_1.m at H
 obtain rfl := hs.nR d0
 refine fn_of (args := [.slice a21 x0.length p22, .func (.func 85) #[] #[]]) (rs := [.tmp 4]) (N := 19) Tryz.func119 rfl rfl rfl rfl ?_
 refine st 12 [] ?_
 obtain ⟨s26, m28, HR27⟩ := bind_some H
 refine k_loop 0 (fun k' ρ h => ∃ (x25 : Int) (I : Gh), slices_IndexFunc_api_Cell__field_Formatted_1.l1.m K x0 k' x25 = some s26 ∧ Fits [(0, .slice a21 x0.length p22), (1, .func (.func 85) #[] #[]), (7, .int .i64 (x0.length : Int)), (8, .int .i64 x25)] ρ ∧ St E [rR t_api_Cell .b a21 p22 x0.length x0] I h) (fun ρ h => ∃ (I : Gh), Sum.inr () = s26 ∧ Fits [] ρ ∧ St E [] I h) K ⟨0, I, m28, ⟨by kernel_rfl, by kernel_rfl, by kernel_rfl, by kernel_rfl, trivial⟩, hs.pk (.c d0 .n)⟩ ?_ rfl ?_
 ·clear m28 H
  rintro k' ρ h ⟨x25, I, H, hf, hs⟩
  cases k' with
  | zero => cases H
  | succ k =>
   rw [slices_IndexFunc_api_Cell__field_Formatted_1.l1.m] at H
   refine k_fits _ hf ?_ rfl
   refine st 1 [] ?_
   obtain ⟨j31, e38, H⟩ := letJ_some H
   refine k_join (fun ρ h => ∃ (x30 : Bool) (I : Gh), j31 x30 = some s26 ∧ Fits [(0, .slice a21 x0.length p22), (1, .func (.func 85) #[] #[]), (7, .int .i64 (x0.length : Int)), (8, .int .i64 x25), (9, .bool x30)] ρ ∧ St E [rR t_api_Cell .b a21 p22 x0.length x0] I h) ?_ ?_
   ·refine st 1 [] (k_ite H (fun c29 H => ?_) (fun c29 H => ?_))
    ·refine st 1 [] ?_
     exact k_end ⟨true, I, H, ⟨by kernel_rfl, by kernel_rfl, by kernel_rfl, by kernel_rfl, by kernel_rfl, trivial⟩, hs.pk (.c d0 .n)⟩
    ·refine st 1 [] ?_
     exact k_end ⟨false, I, H, ⟨by kernel_rfl, by kernel_rfl, by kernel_rfl, by kernel_rfl, by kernel_rfl, trivial⟩, hs.pk (.c d0 .n)⟩
   ·clear H
    rintro ρ h ⟨x30, I, H, hf, hs⟩
    refine k_fits _ hf ?_ rfl
    subst e38
    try dsimp only at H
    cases x30
    ·rw [cond_false] at H
     refine st 2 [false] ?_
     refine k_out rfl ?_
     obtain rfl := Option.some.inj H
     exact xE ⟨I, rfl, trivial, hs.pk .n⟩
    ·rw [cond_true] at H
     obtain ⟨c32, H⟩ := guard_pos H
     obtain ⟨c33, H⟩ := guard_pos H
     refine st 15 [true] (k_val (elemPtr a21 (x25.toNat * 6)) (pI (e := 57) (ik := .i64) (hs.sR d0) c32 c33) ?_)
     obtain ⟨y35, g34, q36⟩ := (hs.sR d0).toSl.seg c32 c33
     obtain rfl := t_api_Cell.open_ q36
     refine k_op (lG g34 ?_)
     obtain ⟨hk, bk⟩ := hs.call tk0 .n
     refine k_call H (fun _ m => field_Formatted_1.calls m hk) ?_
     rintro t37 _ h H ⟨I, _, ⟨rfl, rfl⟩, hk⟩
     replace hs := bk hk ct0 rfl
     cases t37
     ·rw [cond_false] at H
      refine st 8 [false] ?_
      exact k_endL ⟨k, Nat.lt_succ_self _, (w64 (x25 + 1)), I, H, ⟨by kernel_rfl, by kernel_rfl, by kernel_rfl, by kernel_rfl, trivial⟩, hs.pk (.c d0 .n)⟩
     ·rw [cond_true] at H
      refine st 7 [true] ?_
      refine k_retQ (krL ?_)
      obtain rfl := Option.some.inj H
      obtain rfl := Option.some.inj HR27
      exact ⟨_, by kernel_rfl, I, _, ⟨rfl, rfl⟩, hs.pk .n⟩
 ·rintro ρ h ⟨I, rfl, hf, hs⟩
  have H := HR27
  try dsimp only at H
  refine k_fits _ hf ?_ rfl
  refine st 4 [] ?_
  refine k_retQ ?_
  obtain rfl := Option.some.inj H
  exact ⟨_, by kernel_rfl, I, _, ⟨rfl, rfl⟩, hs.pk .n⟩

/-! slices.ContainsFunc[[]shutter/api.Cell,shutter/api.Cell] -/
def slices_ContainsFunc_api_Cell__field_Formatted_1.m (K : Nat) (x0 : (List api_Cell)) : Option Bool :=
  ((slices_IndexFunc_api_Cell__field_Formatted_1.m K x0).bind fun t25 => (some (decide (t25 ≥ 0))))

theorem slices_ContainsFunc_api_Cell__field_Formatted_1.calls {B I : Gh} {h : Heap} {K : Nat} {x0 : (List api_Cell)} {a21 : Option Addr} {p22 : Nat} {n23 : Nat} {r : Bool} (H : slices_ContainsFunc_api_Cell__field_Formatted_1.m K x0 = some r)  :
    Fc Tryz.prog 84 #[.slice a21 n23 p22, .func (.func 85) #[] #[]] [rR t_api_Cell .b a21 p22 n23 x0] B I h (fun v L => v = .bool r ∧ L = []) := by
 refine fc_of fun E hs => ?_
 unfold slices_ContainsFunc_api_Cell__field_Formatted_1.m at H
 obtain rfl := hs.nR d0
 refine fn_of (args := [.slice a21 x0.length p22, .func (.func 85) #[] #[]]) (rs := [.tmp 4]) (N := 9) Tryz.func84 rfl rfl rfl rfl ?_
 obtain ⟨hk, bk⟩ := hs.call tk0 (.c (qB d0) .n)
 refine st 8 [] (k_call H (fun _ m => slices_IndexFunc_api_Cell__field_Formatted_1.calls m hk) ?_)
 rintro t25 _ h H ⟨I, _, ⟨rfl, rfl⟩, hk⟩
 replace hs := bk hk ct0 rfl
 refine st 3 [] ?_
 refine k_retQ ?_
 obtain rfl := Option.some.inj H
 exact ⟨_, by kernel_rfl, I, _, ⟨rfl, rfl⟩, hs.pk .n⟩

/-! shutter/field.Formatted -/
def field_Formatted.m (K : Nat) (x0 : api_Screen) : Option Bool :=
  ((slices_ContainsFunc_api_Cell__field_Formatted_1.m K x0.Cells).bind fun t26 => (some t26))

theorem field_Formatted.calls {B I : Gh} {h : Heap} {K : Nat} {x0 : api_Screen} {a21 : Option Addr} {p22 : Nat} {n23 : Nat} {r : Bool} (H : field_Formatted.m K x0 = some r)  :
    Fc Tryz.prog 43 #[.agg #[.int .i64 x0.Rows, .int .i64 x0.Cols, .slice a21 n23 p22, .int .i64 x0.Cursor, .bool x0.Locked, .bool x0.Insert]] [rR t_api_Cell .b a21 p22 n23 x0.Cells] B I h (fun v L => v = .bool r ∧ L = []) := by
 refine fc_of fun E hs => ?_
 unfold field_Formatted.m at H
 obtain rfl := hs.nR d0
 refine fn_of (args := [.agg #[.int .i64 x0.Rows, .int .i64 x0.Cols, .slice a21 x0.Cells.length p22, .int .i64 x0.Cursor, .bool x0.Locked, .bool x0.Insert]]) (rs := [.tmp 2]) (N := 6) Tryz.func43 rfl rfl rfl rfl ?_
 refine st 2 [] (k_op (nB hs [.int .i64 x0.Rows, .int .i64 x0.Cols, .slice a21 x0.Cells.length p22, .int .i64 x0.Cursor, .bool x0.Locked, .bool x0.Insert] ?_))
 intro b25 h hs
 refine st 5 [] (k_op (lB (hs.bl d0) 2 rfl ?_))
 obtain ⟨hk, bk⟩ := hs.call tk0 (.c (qB d1) .n)
 refine k_call H (fun _ m => slices_ContainsFunc_api_Cell__field_Formatted_1.calls m hk) ?_
 rintro t26 _ h H ⟨I, _, ⟨rfl, rfl⟩, hk⟩
 replace hs := bk hk ct0 rfl
 refine st 2 [] ?_
 refine k_retQ ?_
 obtain rfl := Option.some.inj H
 exact ⟨_, by kernel_rfl, I, _, ⟨rfl, rfl⟩, hs.pk .n⟩

/-! shutter/read.letters -/
def read_letters.l1.m (K : Nat) (x0 : api_Screen) (x1 : (List Int)) : Nat → (List Int) → Int → Option ((List Int))
  | 0, _, _ => none
  | k + 1, x30, x35 => (letJ (α := Bool → Option ((List Int))) (fun (x45 : Bool) => (bif x45 then (if 0 ≤ x35 then (if x35 < (x1.length : Int) then (if 0 ≤ (at_ x1 x35) then (if (at_ x1 x35) < (x0.Cells.length : Int) then (bif (at_ x0.Cells (at_ x1 x35)).Field then (read_letters.l1.m K x0 x1 k x30 (w64 (x35 + 1))) else (if (at_ x0.Cells (at_ x1 x35)).Char = 0 then (read_letters.l1.m K x0 x1 k x30 (w64 (x35 + 1))) else ((app x30 [(at_ x0.Cells (at_ x1 x35)).Char]).bind fun l59 => (read_letters.l1.m K x0 x1 k l59 (w64 (x35 + 1)))))) else none) else none) else none) else none) else (some (x30)))) fun (j46 : Bool → Option ((List Int))) => (if x35 < (x1.length : Int) then (j46 true) else (j46 false)))
def read_letters.m (K : Nat) (x0 : api_Screen) (x1 : (List Int)) : Option (List Int) :=
  ((read_letters.l1.m K x0 x1 K [] 0).bind fun x37 => (some x37))

theorem read_letters.calls {B I : Gh} {h : Heap} {K : Nat} {x0 : api_Screen} {x1 : (List Int)} {a21 : Option Addr} {p22 : Nat} {n23 : Nat} {a25 : Option Addr} {p26 : Nat} {n27 : Nat} {r : (List Int)} (H : read_letters.m K x0 x1 = some r)  :
    Fc Tryz.prog 44 #[.agg #[.int .i64 x0.Rows, .int .i64 x0.Cols, .slice a21 n23 p22, .int .i64 x0.Cursor, .bool x0.Locked, .bool x0.Insert], .slice a25 n27 p26] [rR t_api_Cell .b a21 p22 n23 x0.Cells, rR (tInt .i64) .b a25 p26 n27 x1] B I h (fun v L => ∃ (a65 : Option Addr) (p66 : Nat) (n67 : Nat), v = .slice a65 n67 p66 ∧ L = [rO (tInt .u8) .i a65 p66 n67 r]) := by
 refine fc_of fun E hs => ?_
 unfold read_letters.m at H
 obtain rfl := hs.nR d0
 obtain rfl := hs.nR d1
 refine fn_of (args := [.agg #[.int .i64 x0.Rows, .int .i64 x0.Cols, .slice a21 x0.Cells.length p22, .int .i64 x0.Cursor, .bool x0.Locked, .bool x0.Insert], .slice a25 x1.length p26]) (rs := [.tmp 4]) (N := 35) Tryz.func44 rfl rfl rfl rfl ?_
 refine st 2 [] (k_op (nB hs [.int .i64 x0.Rows, .int .i64 x0.Cols, .slice a21 x0.Cells.length p22, .int .i64 x0.Cursor, .bool x0.Locked, .bool x0.Insert] ?_))
 intro b29 h hs
 refine st 14 [] ?_
 obtain ⟨s36, m43, HR42⟩ := bind_some H
 refine k_loop 0 (fun k' ρ h => ∃ (x30 : List Int) (x35 : Int) (a31 : Option Addr) (p32 : Nat) (n33 : Nat) (I : Gh), read_letters.l1.m K x0 x1 k' x30 x35 = some s36 ∧ Fits [(2, .pointer (some ⟨b29, 0, none⟩)), (5, .slice a31 n33 p32), (9, .slice a25 x1.length p26), (10, .int .i64 (x1.length : Int)), (11, .int .i64 x35)] ρ ∧ St E [rO (tInt .u8) .i a31 p32 n33 x30, rR (tInt .i64) .b a25 p26 x1.length x1, rR t_api_Cell .b a21 p22 x0.Cells.length x0.Cells, rB b29 [.int .i64 x0.Rows, .int .i64 x0.Cols, .slice a21 x0.Cells.length p22, .int .i64 x0.Cursor, .bool x0.Locked, .bool x0.Insert] 24] I h) (fun ρ h => ∃ (x37 : List Int) (a38 : Option Addr) (p39 : Nat) (n40 : Nat) (I : Gh), x37 = s36 ∧ Fits [(5, .slice a38 n40 p39)] ρ ∧ St E [rO (tInt .u8) .i a38 p39 n40 x37] I h) K ⟨[], 0, none, 0, 0, I, m43, ⟨by kernel_rfl, by kernel_rfl, by kernel_rfl, by kernel_rfl, by kernel_rfl, trivial⟩, hs.pk (.f imON (.c d2 (.c d1 (.c d0 .n))))⟩ ?_ rfl ?_
 ·clear HR42 m43 H
  rintro k' ρ h ⟨x30, x35, a31, p32, n33, I, H, hf, hs⟩
  cases k' with
  | zero => cases H
  | succ k =>
   rw [read_letters.l1.m] at H
   refine k_fits _ hf ?_ rfl
   obtain rfl := hs.nO d0
   refine st 1 [] ?_
   obtain ⟨j46, e64, H⟩ := letJ_some H
   refine k_join (fun ρ h => ∃ (x45 : Bool) (I : Gh), j46 x45 = some s36 ∧ Fits [(2, .pointer (some ⟨b29, 0, none⟩)), (5, .slice a31 x30.length p32), (9, .slice a25 x1.length p26), (10, .int .i64 (x1.length : Int)), (11, .int .i64 x35), (12, .bool x45)] ρ ∧ St E [rO (tInt .u8) .i a31 p32 x30.length x30, rR (tInt .i64) .b a25 p26 x1.length x1, rR t_api_Cell .b a21 p22 x0.Cells.length x0.Cells, rB b29 [.int .i64 x0.Rows, .int .i64 x0.Cols, .slice a21 x0.Cells.length p22, .int .i64 x0.Cursor, .bool x0.Locked, .bool x0.Insert] 24] I h) ?_ ?_
   ·refine st 1 [] (k_ite H (fun c44 H => ?_) (fun c44 H => ?_))
    ·refine st 1 [] ?_
     exact k_end ⟨true, I, H, ⟨by kernel_rfl, by kernel_rfl, by kernel_rfl, by kernel_rfl, by kernel_rfl, by kernel_rfl, trivial⟩, hs.pk (.c d0 (.c d0 (.c d0 (.c d0 .n))))⟩
    ·refine st 1 [] ?_
     exact k_end ⟨false, I, H, ⟨by kernel_rfl, by kernel_rfl, by kernel_rfl, by kernel_rfl, by kernel_rfl, by kernel_rfl, trivial⟩, hs.pk (.c d0 (.c d0 (.c d0 (.c d0 .n))))⟩
   ·clear H
    rintro ρ h ⟨x45, I, H, hf, hs⟩
    refine k_fits _ hf ?_ rfl
    subst e64
    try dsimp only at H
    cases x45
    ·rw [cond_false] at H
     refine st 2 [false] ?_
     refine k_out rfl ?_
     obtain rfl := Option.some.inj H
     exact xE ⟨x30, a31, p32, x30.length, I, rfl, ⟨by kernel_rfl, trivial⟩, hs.pk (.c d0 .n)⟩
    ·rw [cond_true] at H
     obtain ⟨c47, H⟩ := guard_pos H
     obtain ⟨c48, H⟩ := guard_pos H
     refine st 7 [true] (k_val (elemPtr a25 (x35.toNat * 1)) (pI (e := 3) (ik := .i64) (hs.sR d1) c47 c48) ?_)
     refine k_op (lC ((hs.sR d1).cell1 c47 c48) ?_)
     refine st 5 [] (k_op (lB (hs.bl d3) 2 rfl ?_))
     obtain ⟨c49, H⟩ := guard_pos H
     obtain ⟨c50, H⟩ := guard_pos H
     refine st 1 [] (k_val (elemPtr a21 ((at_ x1 x35).toNat * 6)) (pI (e := 57) (ik := .i64) (hs.sR d2) c49 c50) ?_)
     obtain ⟨y52, g51, q53⟩ := (hs.sR d2).toSl.seg c49 c50
     obtain rfl := t_api_Cell.open_ q53
     refine k_op (lG g51 ?_)
     refine k_op (nA hs [.bool false, .bool false, .bool false, .int .i64 0, .bool false, .int .u8 0] (.agg #[.bool false, .bool false, .bool false, .int .i64 0, .bool false, .int .u8 0]) ?_)
     intro b54 h hs
     refine k_op (sN hs 0 [.bool ((at_ x0.Cells (at_ x1 x35)).Field), .bool (((at_ x0.Cells (at_ x1 x35)).Attr).Protected), .bool (((at_ x0.Cells (at_ x1 x35)).Attr).Numeric), .int .i64 (((at_ x0.Cells (at_ x1 x35)).Attr).Show), .bool (((at_ x0.Cells (at_ x1 x35)).Attr).Modified), .int .u8 ((at_ x0.Cells (at_ x1 x35)).Char)] [.bool ((at_ x0.Cells (at_ x1 x35)).Field), .bool (((at_ x0.Cells (at_ x1 x35)).Attr).Protected), .bool (((at_ x0.Cells (at_ x1 x35)).Attr).Numeric), .int .i64 (((at_ x0.Cells (at_ x1 x35)).Attr).Show), .bool (((at_ x0.Cells (at_ x1 x35)).Attr).Modified), .int .u8 ((at_ x0.Cells (at_ x1 x35)).Char)] (ones_of rfl) ?_)
     intro h hs
     refine st 4 [] (k_op (lB (hs.bl d0) 0 rfl ?_))
     refine k_spl H (fun c55 H => ?_) (fun c55 H => ?_)
     ·refine st 14 [false] ?_
      exact k_endL ⟨k, Nat.lt_succ_self _, x30, (w64 (x35 + 1)), a31, p32, x30.length, I, H, ⟨by kernel_rfl, by kernel_rfl, by kernel_rfl, by kernel_rfl, by kernel_rfl, trivial⟩, hs.pk (.c d1 (.c d1 (.c d1 (.c d1 .n))))⟩
     ·refine st 3 [] (k_op (lB (hs.bl d0) 5 rfl ?_))
      refine k_iteN H (fun c56 H => ?_) (fun c56 H => ?_)
      ·refine st 9 [false] ?_
       exact k_endL ⟨k, Nat.lt_succ_self _, x30, (w64 (x35 + 1)), a31, p32, x30.length, I, H, ⟨by kernel_rfl, by kernel_rfl, by kernel_rfl, by kernel_rfl, by kernel_rfl, trivial⟩, hs.pk (.c d1 (.c d1 (.c d1 (.c d1 .n))))⟩
      ·refine st 6 [true] (k_op (lB (hs.bl d0) 5 rfl ?_))
       refine k_op (nS (e := 5) hs .i (tInt .u8) ([(at_ x0.Cells (at_ x1 x35)).Char] : List Int) [.int .u8 ((at_ x0.Cells (at_ x1 x35)).Char)] 1 (.int .u8 0) (Reps.int (I := (Cl.G .i E.B I)) (k := .u8) (l := [(at_ x0.Cells (at_ x1 x35)).Char])) ?_)
       intro b57 h hs
       replace hs := (hs.f d2)
       obtain ⟨l59, m60, H⟩ := bind_some H
       refine k_op (aO (e := 5) (bytes := 1) hs (hs.sO d1) m60 ?_)
       intro a61 p62 h hs
       refine st 7 [] ?_
       exact k_endL ⟨k, Nat.lt_succ_self _, l59, (w64 (x35 + 1)), a61, p62, l59.length, I, H, ⟨by kernel_rfl, by kernel_rfl, by kernel_rfl, by kernel_rfl, by kernel_rfl, trivial⟩, hs.pk (.c d0 (.c d2 (.c d2 (.c d2 .n))))⟩
 ·rintro ρ h ⟨x37, a38, p39, n40, I, rfl, hf, hs⟩
  have H := HR42
  try dsimp only at H
  refine k_fits _ hf ?_ rfl
  obtain rfl := hs.nO d0
  refine st 5 [] ?_
  refine k_retQ ?_
  obtain rfl := Option.some.inj H
  exact ⟨_, by kernel_rfl, I, _, ⟨a38, p39, x37.length, rfl, rfl⟩, hs.pk (.c d0 .n)⟩

/-! shutter/grid.On -/
def grid_On.m (x0 : api_Screen) (x1 : Int) (x2 : Int) : Option Int :=
  (if (x0.Cells.length : Int) ≠ 0 then (some (Int.tmod (w64 ((w64 (x1 + (Int.tmod x2 (x0.Cells.length : Int)))) + (x0.Cells.length : Int))) (x0.Cells.length : Int))) else none)

theorem grid_On.calls {B I : Gh} {h : Heap} {x0 : api_Screen} {x1 : Int} {x2 : Int} {a21 : Option Addr} {p22 : Nat} {n23 : Nat} {r : Int} (H : grid_On.m x0 x1 x2 = some r)  :
    Fc Tryz.prog 47 #[.agg #[.int .i64 x0.Rows, .int .i64 x0.Cols, .slice a21 n23 p22, .int .i64 x0.Cursor, .bool x0.Locked, .bool x0.Insert], .int .i64 x1, .int .i64 x2] [rR t_api_Cell .b a21 p22 n23 x0.Cells] B I h (fun v L => v = .int .i64 r ∧ L = []) := by
 refine fc_of fun E hs => ?_
 unfold grid_On.m at H
 obtain rfl := hs.nR d0
 refine fn_of (args := [.agg #[.int .i64 x0.Rows, .int .i64 x0.Cols, .slice a21 x0.Cells.length p22, .int .i64 x0.Cursor, .bool x0.Locked, .bool x0.Insert], .int .i64 x1, .int .i64 x2]) (rs := [.tmp 6]) (N := 20) Tryz.func47 rfl rfl rfl rfl ?_
 refine st 2 [] (k_op (nB hs [.int .i64 x0.Rows, .int .i64 x0.Cols, .slice a21 x0.Cells.length p22, .int .i64 x0.Cursor, .bool x0.Locked, .bool x0.Insert] ?_))
 intro b25 h hs
 refine st 5 [] (k_op (lB (hs.bl d0) 2 rfl ?_))
 obtain ⟨c26, H⟩ := guard_pos H
 refine st 8 [] (k_val (.int .i64 (Int.tmod x2 (x0.Cells.length : Int))) (pr_rem (k := .i64) (a := x2) (b := (x0.Cells.length : Int)) (by kernel_rfl) (by kernel_rfl) c26) ?_)
 refine st 4 [] (k_val (.int .i64 (Int.tmod (w64 ((w64 (x1 + (Int.tmod x2 (x0.Cells.length : Int)))) + (x0.Cells.length : Int))) (x0.Cells.length : Int))) (pr_rem (k := .i64) (a := (w64 ((w64 (x1 + (Int.tmod x2 (x0.Cells.length : Int)))) + (x0.Cells.length : Int)))) (b := (x0.Cells.length : Int)) (by kernel_rfl) (by kernel_rfl) c26) ?_)
 refine st 2 [] ?_
 refine k_retQ ?_
 obtain rfl := Option.some.inj H
 exact ⟨_, by kernel_rfl, I, _, ⟨rfl, rfl⟩, hs.pk .n⟩

/-! shutter/field.sign -/
def field_sign.m (x0 : Int) : Option Int :=
  (if x0 < 0 then (some (-1)) else (some 1))

theorem field_sign.calls {x0 : Int} {h : Heap} {r : Int} (H : field_sign.m x0 = some r)   :
    Ret Tryz.prog 121 #[.int .i64 x0] h (fun v h' => .int .i64 r = v ∧ h' = h) := by
 unfold field_sign.m at H
 refine fn_of (args := [.int .i64 x0]) (rs := [.tmp 2]) (N := 5) Tryz.func121 rfl rfl rfl rfl ?_
 refine st 8 [] (k_ite H (fun c21 H => ?_) (fun c21 H => ?_))
 ·refine st 6 [true] ?_
  refine k_retQ ?_
  obtain rfl := Option.some.inj H
  exact ⟨_, by kernel_rfl, rfl, rfl⟩
 ·refine st 7 [false] ?_
  refine k_retQ ?_
  obtain rfl := Option.some.inj H
  exact ⟨_, by kernel_rfl, rfl, rfl⟩

/-! shutter/field.round -/
def field_round.xs (s : api_Screen) (sg : Int) : Nat → Int → Option (List Int)
  | 0, _ => some []
  | n + 1, x => (grid_On.m s x sg).bind fun y => (field_round.xs s sg n y).bind fun l => some (x :: l)
def field_round.m (x0 : api_Screen) (x1 : Int) (x2 : Int) : Option (List Int) :=
  if (x0.Cells.length : Int) ≤ 1099511627776 then (grid_On.m x0 x1 x2).bind fun x => (field_sign.m x2).bind fun sg => field_round.xs x0 sg x0.Cells.length x else none
theorem field_round.xs_len {s : api_Screen} {sg : Int} : ∀ {n : Nat} {x : Int} {l : List Int}, field_round.xs s sg n x = some l → l.length = n
  | 0, _, l, h => by obtain rfl := Option.some.inj h; rfl
  | n + 1, x, l, h => by
    unfold field_round.xs at h
    obtain ⟨y, _, h⟩ := bind_some h
    obtain ⟨l', h1, h⟩ := bind_some h
    obtain rfl := Option.some.inj h
    rw [List.length_cons, field_round.xs_len h1]
theorem field_round.xs_cons {s : api_Screen} {sg : Int} {n : Nat} {x x' : Int} {l : List Int} (h : field_round.xs s sg (n + 1) x = some (x' :: l)) : x' = x ∧ ∃ y, grid_On.m s x sg = some y ∧ field_round.xs s sg n y = some l := by
  unfold field_round.xs at h
  obtain ⟨y, h1, h⟩ := bind_some h
  obtain ⟨l', h2, h⟩ := bind_some h
  have e := Option.some.inj h
  obtain ⟨rfl, rfl⟩ := List.cons.inj e
  exact ⟨rfl, y, h1, h2⟩

theorem field_round.calls {B I : Gh} {h : Heap} {x0 : api_Screen} {x1 : Int} {x2 : Int} {a21 : Option Addr} {p22 : Nat} {n23 : Nat} {r : List Int} (H : field_round.m x0 x1 x2 = some r) :
    Fc Tryz.prog 87 #[.agg #[.int .i64 x0.Rows, .int .i64 x0.Cols, .slice a21 n23 p22, .int .i64 x0.Cursor, .bool x0.Locked, .bool x0.Insert], .int .i64 x1, .int .i64 x2] [] B I h
      (fun v L => ∃ (b1 b2 b3 : Nat), v = .func (.func 120) #[] #[.pointer (some ⟨b1, 0, none⟩), .pointer (some ⟨b2, 0, none⟩), .pointer (some ⟨b3, 0, none⟩)] ∧
        L = [rB b1 [.int .i64 x0.Rows, .int .i64 x0.Cols, .slice a21 n23 p22, .int .i64 x0.Cursor, .bool x0.Locked, .bool x0.Insert] 24, rB b2 [.int .i64 x1] 3, rB b3 [.int .i64 x2] 3] ∧ field_round.m x0 x1 x2 = some r) := by
 refine fc_of fun E hs => ?_
 refine fn_of (args := [.agg #[.int .i64 x0.Rows, .int .i64 x0.Cols, .slice a21 n23 p22, .int .i64 x0.Cursor, .bool x0.Locked, .bool x0.Insert], .int .i64 x1, .int .i64 x2]) (rs := [.tmp 6]) (N := 8) Tryz.func87 rfl rfl rfl rfl ?_
 refine st 2 [] (k_op (nB hs [.int .i64 x0.Rows, .int .i64 x0.Cols, .slice a21 n23 p22, .int .i64 x0.Cursor, .bool x0.Locked, .bool x0.Insert] ?_))
 intro b1 h hs
 refine k_op (nB hs [.int .i64 x1] ?_)
 intro b2 h hs
 refine k_op (nB hs [.int .i64 x2] ?_)
 intro b3 h hs
 refine st 7 [] ?_
 refine k_retQ ?_
 exact ⟨_, by kernel_rfl, I, _, ⟨b1, b2, b3, rfl, rfl, H⟩, hs.pk (.c d2 (.c d1 (.c d0 .n)))⟩

/-- What the iterator reads. -/
structure RndH (s : api_Screen) (x1 x2 : Int) (a : Option Addr) (p n b1 b2 b3 : Nat) (h : Heap) : Prop where
  s1 : segAt h (some ⟨b1, 0, none⟩) 0 6 = some [.int .i64 s.Rows, .int .i64 s.Cols, .slice a n p, .int .i64 s.Cursor, .bool s.Locked, .bool s.Insert]
  c1 : cellAt h (some ⟨b1, 0, none⟩) 2 = some (.slice a n p)
  c2 : cellAt h (some ⟨b2, 0, none⟩) 0 = some (.int .i64 x1)
  c3 : cellAt h (some ⟨b3, 0, none⟩) 0 = some (.int .i64 x2)
  rd : ∃ I, Bd I h ∧ Rd t_api_Cell I h a p s.Cells
  len : s.Cells.length = n
theorem grid_On.ret {s : api_Screen} {x y r : Int} {a : Option Addr} {p n : Nat} {h : Heap} (H : grid_On.m s x y = some r) (hr : ∃ I, Bd I h ∧ Rd t_api_Cell I h a p s.Cells) (hl : s.Cells.length = n) :
    Ret Tryz.prog 47 #[.agg #[.int .i64 s.Rows, .int .i64 s.Cols, .slice a n p, .int .i64 s.Cursor, .bool s.Locked, .bool s.Insert], .int .i64 x, .int .i64 y] h (fun v h' => v = .int .i64 r ∧ Grown h h') := by
  obtain ⟨I, hB, rd⟩ := hr
  have pl : St (en [rR t_api_Cell .b a p n s.Cells] No I h) [rR t_api_Cell .b a p n s.Cells] I h :=
    ⟨Pst.refl hB, fun _ x => x.elim, fun _ _ x => x, ⟨⟨⟨rd.mono (fun _ y => .inl y), hl⟩, fun _ x => x.elim, fun _ x => x.elim⟩, trivial⟩, fun _ x => .inl x⟩
  refine (grid_On.calls (B := No) H pl).mono ?_
  rintro v h' ⟨I', L, ⟨rfl, rfl⟩, hs⟩
  exact ⟨rfl, hs.pst.grown fun b x => x.elim id id⟩

theorem field_round.iter {s : api_Screen} {x1 x2 : Int} {a : Option Addr} {p n b1 b2 b3 : Nat} {xs : List Int} (H : field_round.m s x1 x2 = some xs) :
    Iter Tryz.prog 120 #[.pointer (some ⟨b1, 0, none⟩), .pointer (some ⟨b2, 0, none⟩), .pointer (some ⟨b3, 0, none⟩)] (fun x => #[Value.int .i64 x]) xs (RndH s x1 x2 a p n b1 b2 b3) := by
  unfold field_round.m at H
  obtain ⟨hlim, H⟩ := guard_pos H
  intro l J Jx hJH hJG hXG hy h h0
  have H0 := hJH _ _ h0
  refine fn_of (args := [.func (.yield l) #[] #[], .pointer (some ⟨b1, 0, none⟩), .pointer (some ⟨b2, 0, none⟩), .pointer (some ⟨b3, 0, none⟩)]) (rs := []) (N := 25) Tryz.func120 rfl rfl rfl rfl ?_
  refine st 2 [] (k_op (lG (a := some ⟨b1, 0, none⟩) (n := 0) H0.s1 ?_))
  refine k_op (lC (a := some ⟨b2, 0, none⟩) (n := 0) H0.c2 ?_)
  refine k_op (lC (a := some ⟨b3, 0, none⟩) (n := 0) H0.c3 ?_)
  refine k_call H (fun _ m => grid_On.ret m H0.rd H0.len) ?_
  rintro x _ h1 H ⟨rfl, g1⟩
  have h0 := hJG _ _ _ h0 g1
  have H0 := hJH _ _ h0
  obtain ⟨sg, Hs, H⟩ := bind_some H
  have hln := field_round.xs_len H
  have hn := H0.len
  refine st 5 [] (k_op (lC (a := some ⟨b1, 0, none⟩) (n := 2) H0.c1 ?_))
  refine st 4 [] ?_
  refine k_loop 0 (fun k ρ h => ∃ (pre rest : List Int) (x i : Int), xs = pre ++ rest ∧ field_round.xs s sg rest.length x = some rest ∧ k = rest.length ∧ i = (pre.length : Int) ∧
    Fits [(0, .func (.yield l) #[] #[]), (1, .pointer (some ⟨b1, 0, none⟩)), (2, .pointer (some ⟨b2, 0, none⟩)), (3, .pointer (some ⟨b3, 0, none⟩)), (5, .int .i64 x), (12, .int .i64 (n : Int)), (13, .int .i64 i)] ρ ∧ J pre h)
    (fun _ h => J xs h) xs.length ⟨[], xs, x, 0, rfl, by rw [hln]; exact H, rfl, rfl, ⟨by kernel_rfl, by kernel_rfl, by kernel_rfl, by kernel_rfl, by kernel_rfl, by kernel_rfl, by kernel_rfl, trivial⟩, h0⟩ ?_ rfl ?_
  · rintro k ρ h2 ⟨pre, rest, x, i, hx, hr, rfl, hi, hf, hJ⟩
    refine k_fits _ hf ?_ rfl
    have H0 := hJH _ _ hJ
    have hl2 : (pre.length : Int) + (rest.length : Int) = (n : Int) := by rw [← hn, ← hln, hx, List.length_append]; omega
    cases rest with
    | nil =>
      rw [List.append_nil] at hx
      subst hx
      refine st 2 [] (k_val (.bool false) (pr_bool (b := decide (i < (n : Int))) (by kernel_rfl) (decide_eq_false (by rw [hi]; simp at hl2; omega))) ?_)
      refine st 3 [false] ?_
      refine k_out rfl ?_
      exact xE hJ
    | cons x' rest =>
      rw [List.length_cons] at hl2
      obtain ⟨rfl, y, hy1, hy2⟩ := field_round.xs_cons hr
      refine st 2 [] (k_val (.bool true) (pr_bool (b := decide (i < (n : Int))) (by kernel_rfl) (decide_eq_true (by rw [hi]; omega))) ?_)
      refine st 11 [true] (k_op (owp_yield (args := #[.int .i64 x']) (hy pre x' rest h2 hx hJ) ?_))
      rintro b h3 (⟨rfl, hJ3⟩ | ⟨rfl, hX⟩)
      · have H3 := hJH _ _ hJ3
        refine st 4 [false] ?_
        refine k_regP 6 ?_
        refine aG (a := some ⟨b1, 0, none⟩) (n := 0) 0 rfl Keep.refl H3.s1 (fun _ _ x => x) ?_
        refine aRun [1] 4 Keep.refl ?_
        refine aL (a := some ⟨b3, 0, none⟩) (n := 0) 2 rfl Keep.refl H3.c3 (fun _ _ x => x) ?_
        refine aO1 3 rfl (owp_callF (by kernel_rfl) (field_sign.calls Hs) ?_)
        rintro v h' ⟨e1, e2⟩
        rw [← e1, e2]
        refine ⟨Keep.refl, ?_⟩
        refine aO1 4 rfl (owp_callF (by kernel_rfl) (grid_On.ret hy1 H3.rd H3.len) ?_)
        rintro _ h4 ⟨rfl, g4⟩
        have hk : Keep No h3 h4 := fun b hb _ => g4.keep b hb
        refine ⟨hk, ?_⟩
        refine aRun [5] 0 hk ?_
        refine aEnd ?_
        refine st 5 [] ?_
        have e : w64 (i + 1) = ((pre ++ [x']).length : Int) := by
          rw [List.length_append, List.length_singleton, w64_sm (by omega) (by omega)]; omega
        exact k_endL ⟨rest.length, by simp, pre ++ [x'], rest, y, w64 (i + 1), by rw [hx]; simp, hy2, rfl, e, ⟨by kernel_rfl, by kernel_rfl, by kernel_rfl, by kernel_rfl, by kernel_rfl, by kernel_rfl, by kernel_rfl, trivial⟩, hJG _ _ _ hJ3 g4⟩
      · refine st 3 [true] ?_
        refine k_retQ (krL ?_)
        exact ⟨.tuple #[], by kernel_rfl, .inr ⟨_, hX⟩⟩
  · rintro ρ h2 hJ
    refine k_fin ?_
    exact ⟨.tuple #[], by kernel_rfl, .inl hJ⟩

/-! shutter/field.Begin -/
def field_Begin.l1.m (K : Nat) (x0 : api_Screen) : List Int → Option (Int ⊕ (Unit))
  | [] => some (Sum.inr ())
  | x42 :: xs => (if 0 ≤ x42 then (if x42 < (x0.Cells.length : Int) then (bif (at_ x0.Cells x42).Field then (some (Sum.inl x42)) else (field_Begin.l1.m K x0 xs)) else none) else none)
def field_Begin.m (K : Nat) (x0 : api_Screen) (x1 : Int) : Option Int :=
  (if 0 ≤ x1 then (if x1 < (x0.Cells.length : Int) then (bif (at_ x0.Cells x1).Field then (some x1) else ((field_round.m x0 x1 (-1)).bind fun t33 => ((field_Begin.l1.m K x0 t33).bind fun s39 => match s39 with | .inl q => (some q) | .inr _ => (some (-1))))) else none) else none)

theorem field_Begin.calls {B I : Gh} {h : Heap} {K : Nat} {x0 : api_Screen} {x1 : Int} {a21 : Option Addr} {p22 : Nat} {n23 : Nat} {r : Int} (H : field_Begin.m K x0 x1 = some r)  :
    Fc Tryz.prog 86 #[.agg #[.int .i64 x0.Rows, .int .i64 x0.Cols, .slice a21 n23 p22, .int .i64 x0.Cursor, .bool x0.Locked, .bool x0.Insert], .int .i64 x1] [rR t_api_Cell .b a21 p22 n23 x0.Cells] B I h (fun v L => v = .int .i64 r ∧ L = []) := by
 refine fc_of fun E hs => ?_
 unfold field_Begin.m at H
 obtain rfl := hs.nR d0
 refine fn_rangeW2 (args := [.agg #[.int .i64 x0.Rows, .int .i64 x0.Cols, .slice a21 x0.Cells.length p22, .int .i64 x0.Cursor, .bool x0.Locked, .bool x0.Insert], .int .i64 x1]) (rs := [.cell 4 3]) (N := 24) [_, _] Tryz.func86 rfl rfl rfl rfl ?_
 refine st 1 [] (k_op (nB hs [.int .i64 x0.Rows, .int .i64 x0.Cols, .slice a21 x0.Cells.length p22, .int .i64 x0.Cursor, .bool x0.Locked, .bool x0.Insert] ?_))
 intro b25 h hs
 refine k_op (nA hs [.int .i64 0] (.int .i64 0) ?_)
 intro b26 h hs
 refine st 4 [] (k_op (lB (hs.bl d1) 2 rfl ?_))
 obtain ⟨c27, H⟩ := guard_pos H
 obtain ⟨c28, H⟩ := guard_pos H
 refine st 1 [] (k_val (elemPtr a21 (x1.toNat * 6)) (pI (e := 57) (ik := .i64) (hs.sR d2) c27 c28) ?_)
 refine k_val (elemPtr a21 (x1.toNat * 6 + 0)) (pF (off := 0) (hs.sR d2) c27 c28) ?_
 obtain ⟨y30, g29, q31⟩ := (hs.sR d2).toSl.seg c27 c28
 obtain rfl := t_api_Cell.open_ q31
 refine k_op (lC (seg_cell (f := 0) g29 rfl) ?_)
 refine k_spl H (fun c32 H => ?_) (fun c32 H => ?_)
 ·refine st 5 [true] (k_op (sB (v := .int .i64 x1) hs cw0 ?_))
  intro h hs
  refine st 1 [] ?_
  refine k_retQ (krF ?_)
  obtain rfl := Option.some.inj H
  exact ⟨[.int .i64 x1], (.cons (.one (by kernel_rfl) (by kernel_rfl) ((hs.bl d0).cell (off := 0) rfl)) .nil), I, _, ⟨rfl, rfl⟩, hs.pk .n⟩
 ·refine st 4 [false] (k_op (lN (hs.bl d1) 0 6 ?_))
  obtain ⟨hk, bk⟩ := hs.call tk0 .n
  refine st 1 [] (k_call H (fun _ m => field_round.calls (a21 := a21) (p22 := p22) (n23 := x0.Cells.length) m hk) ?_)
  rintro t33 _ h H ⟨I, _, ⟨b34, b35, b36, rfl, rfl, m37⟩, hk⟩
  replace hs := bk hk ct3 rfl
  refine st 1 [] ?_
  obtain ⟨s39, m40, HR41⟩ := bind_some H
  clear H
  obtain ⟨h38, eh38⟩ : ∃ h', h' = h := ⟨_, rfl⟩
  subst eh38
  refine k_loopW (range_st (p := 16) (enc := fun (x : Int) => .int .i64 x) (hs.pk (.c d5 (.c d4 (.c d3 (.c d0 (.c d0 (.c d0 .n))))))) (fun (pre : List Int) L => ∃ (rest : List Int), t33 = pre ++ rest ∧ (field_Begin.l1.m K x0 rest) = some s39 ∧ L = [rR t_api_Cell .b a21 p22 x0.Cells.length x0.Cells, rB b25 [.int .i64 x0.Rows, .int .i64 x0.Cols, .slice a21 x0.Cells.length p22, .int .i64 x0.Cursor, .bool x0.Locked, .bool x0.Insert] 24, rB b26 [.int .i64 0] 3, rB b34 [.int .i64 x0.Rows, .int .i64 x0.Cols, .slice a21 x0.Cells.length p22, .int .i64 x0.Cursor, .bool x0.Locked, .bool x0.Insert] 24, rB b35 [.int .i64 x1] 3, rB b36 [.int .i64 (-1)] 3]) (mkY (fun L => ∃ (x43 : Int), Sum.inl x43 = s39 ∧ L = [rB b26 [.int .i64 x43] 3]) (fun _ _ => False)) ⟨t33, rfl, m40, rfl⟩ (by kernel_rfl) (enters_of Tryz.func120 rfl (by kernel_rfl)) (field_round.iter (a := a21) (p := p22) (n := x0.Cells.length) (b1 := b34) (b2 := b35) (b3 := b36) m37) ?_ (fun x => [(5, .int .i64 x), (16, .int .i64 x)]) ?_ rfl ?_) ?_ ?_ ?_
  ·rintro o pre L I h' ⟨rest, _, _, rfl⟩ hs
   exact ⟨(hs.bl d4).seg_ 0 6 (Nat.le_of_ble_eq_true rfl), (hs.bl d4).cell (off := 2) rfl, (hs.bl d5).cell (off := 0) rfl, (hs.bl d6).cell (off := 0) rfl, ⟨_, hs.bdG (k := .b), hs.rd d1⟩, rfl⟩
  ·intro x Q h' q
   refine st 3 [] ?_
   exact k_fin2 q
  ·rintro o pre x42 rest' L I h hx' ⟨rest, hx, H, rfl⟩ hs
   obtain rfl : rest = x42 :: rest' := List.append_cancel_left (hx.symm.trans hx')
   clear hx'
   obtain ⟨rest, erest⟩ : ∃ r, r = rest' := ⟨_, rfl⟩
   subst erest
   rw [field_Begin.l1.m] at H
   refine st 4 [] (k_op (lB (hs.bl d2) 2 rfl ?_))
   obtain ⟨c44, H⟩ := guard_pos H
   obtain ⟨c45, H⟩ := guard_pos H
   refine st 1 [] (k_val (elemPtr a21 (x42.toNat * 6)) (pI (e := 57) (ik := .i64) (hs.sR d1) c44 c45) ?_)
   refine k_val (elemPtr a21 (x42.toNat * 6 + 0)) (pF (off := 0) (hs.sR d1) c44 c45) ?_
   obtain ⟨y47, g46, q48⟩ := (hs.sR d1).toSl.seg c44 c45
   obtain rfl := t_api_Cell.open_ q48
   refine k_op (lC (seg_cell (f := 0) g46 rfl) ?_)
   refine k_spl H (fun c49 H => ?_) (fun c49 H => ?_)
   ·refine st 5 [true] (k_op (sB (v := .int .i64 x42) (hs.f d3) cw0 ?_))
    intro h hs
    refine st 1 [] ?_
    refine k_retQ ?_
    obtain rfl := Option.some.inj H
    exact ⟨_, I, ⟨x42, rfl, rfl⟩, hs.pk (.c d1 (.c d0 .n))⟩
   ·refine st 4 [false] ?_
    refine k_fin ?_
    exact ⟨_, I, ⟨rest, by simp [hx], H, rfl⟩, hs.pk (.c d0 (.c d0 (.c d0 (.c d0 (.c d0 (.c d0 (.c d0 .n)))))))⟩
  ·intro h2 hk
   have key : ∃ (o : Obj) (I : Gh), Sum.inr () = s39 ∧ St E (rQ h38.size (h38.size + 1) o :: [rB b26 [.int .i64 0] 3]) I h2 := by
     rcases hk with ⟨o, L, I, ⟨rest, hx, H, rfl⟩, hs⟩ | ⟨o, L, I, hy, hs⟩
     · obtain rfl : rest = [] := List.append_cancel_left (hx.symm.trans (List.append_nil _).symm)
       rw [field_Begin.l1.m] at H
       obtain rfl := Option.some.inj H
       exact ⟨o, I, rfl, hs.pk (.c d0 (.c d2 .n))⟩
     · exact hy.elim
   obtain ⟨o, I, rfl, hs⟩ := key
   have H := HR41
   try dsimp only at H
   refine st 2 [] (k_op (sB (v := .int .i64 (-1)) (hs.f d1) cw0 ?_))
   intro h hs
   refine st 1 [] ?_
   refine k_retQ (krM ?_)
   obtain rfl := Option.some.inj H
   refine ⟨(hs.rqD d1).1, ?_⟩
   replace hs := (hs.f d1).rqe
   exact ⟨[.int .i64 (-1)], (.cons (.one (by kernel_rfl) (by kernel_rfl) ((hs.bl d0).cell (off := 0) rfl)) .nil), I, _, ⟨rfl, rfl⟩, hs.pk .n⟩
  ·rintro h2 ⟨o, L, I, ⟨x43, rfl, rfl⟩, hs⟩
   have H := HR41
   try dsimp only at H
   obtain rfl := Option.some.inj H
   refine ⟨(hs.rqD d0).1, ?_⟩
   replace hs := hs.rqe
   exact ⟨[.int .i64 x43], (.cons (.one (by kernel_rfl) (by kernel_rfl) ((hs.bl d0).cell (off := 0) rfl)) .nil), I, _, ⟨rfl, rfl⟩, hs.pk .n⟩
  ·intro i L hy
   exact hy.elim

/-! shutter/field.Cells -/
def field_Cells.l1.m (K : Nat) (x0 : api_Screen) : Nat → Int → (List Int) → Option ((List Int))
  | 0, _, _ => none
  | k + 1, x31, x32 => (letJ (α := Bool → Option ((List Int))) (fun (x46 : Bool) => (bif x46 then ((app x32 [x31]).bind fun l50 => (field_Cells.l1.m K x0 k (w64 (x31 + 1)) l50)) else (some (x32)))) fun (j47 : Bool → Option ((List Int))) => (if x31 < (x0.Cells.length : Int) then (j47 true) else (j47 false)))
def field_Cells.l2.m (K : Nat) (x0 : api_Screen) : List Int → (List Int) → Option ((List Int))
  | [], x61 => some (x61)
  | x70 :: xs, x61 => (if 0 ≤ x70 then (if x70 < (x0.Cells.length : Int) then (bif (at_ x0.Cells x70).Field then (some (x61)) else ((app x61 [x70]).bind fun l84 => (field_Cells.l2.m K x0 xs l84))) else none) else none)
def field_Cells.m (K : Nat) (x0 : api_Screen) (x1 : Int) : Option (List Int) :=
  ((field_Begin.m K x0 x1).bind fun t27 => (letJ (α := Bool → Option (List Int)) (fun (x29 : Bool) => (bif x29 then ((field_Cells.l1.m K x0 K 0 []).bind fun x38 => (some x38)) else ((field_round.m x0 t27 1).bind fun t56 => ((field_Cells.l2.m K x0 t56 []).bind fun x71 => (some x71))))) fun (j30 : Bool → Option (List Int)) => (if t27 < 0 then (j30 true) else (j30 false))))

theorem field_Cells.calls {B I : Gh} {h : Heap} {K : Nat} {x0 : api_Screen} {x1 : Int} {a21 : Option Addr} {p22 : Nat} {n23 : Nat} {r : (List Int)} (H : field_Cells.m K x0 x1 = some r)  :
    Fc Tryz.prog 45 #[.agg #[.int .i64 x0.Rows, .int .i64 x0.Cols, .slice a21 n23 p22, .int .i64 x0.Cursor, .bool x0.Locked, .bool x0.Insert], .int .i64 x1] [rR t_api_Cell .b a21 p22 n23 x0.Cells] B I h (fun v L => ∃ (a90 : Option Addr) (p91 : Nat) (n92 : Nat), v = .slice a90 n92 p91 ∧ L = [rO (tInt .i64) .i a90 p91 n92 r]) := by
 refine fc_of fun E hs => ?_
 unfold field_Cells.m at H
 obtain rfl := hs.nR d0
 refine fn_rangeW1 (args := [.agg #[.int .i64 x0.Rows, .int .i64 x0.Cols, .slice a21 x0.Cells.length p22, .int .i64 x0.Cursor, .bool x0.Locked, .bool x0.Insert], .int .i64 x1]) (rs := [.tmp 4]) (N := 41) [_, _, _, _] Tryz.func45 rfl rfl rfl rfl ?_
 refine st 1 [] (k_op (nB hs [.int .i64 x0.Rows, .int .i64 x0.Cols, .slice a21 x0.Cells.length p22, .int .i64 x0.Cursor, .bool x0.Locked, .bool x0.Insert] ?_))
 intro b25 h hs
 refine st 3 [] (k_op (nA hs [.slice none 0 0] (.slice none 0 0) ?_))
 intro b26 h hs
 refine st 2 [] (k_op (lN (hs.bl d1) 0 6 ?_))
 obtain ⟨hk, bk⟩ := hs.call tk0 (.c (qB d2) .n)
 refine st 1 [] (k_call H (fun _ m => field_Begin.calls m hk) ?_)
 rintro t27 _ h H ⟨I, _, ⟨rfl, rfl⟩, hk⟩
 replace hs := bk hk ct0 rfl
 refine st 3 [] ?_
 obtain ⟨j30, e89, H⟩ := letJ_some H
 refine k_join (fun ρ h => ∃ (x29 : Bool) (I : Gh), j30 x29 = some r ∧ Fits [(2, .pointer (some ⟨b25, 0, none⟩)), (5, .pointer (some ⟨b26, 0, none⟩)), (6, .int .i64 t27), (13, .bool x29)] ρ ∧ St E [rR t_api_Cell .b a21 p22 x0.Cells.length x0.Cells, rB b25 [.int .i64 x0.Rows, .int .i64 x0.Cols, .slice a21 x0.Cells.length p22, .int .i64 x0.Cursor, .bool x0.Locked, .bool x0.Insert] 24, rB b26 [.slice none 0 0] 81] I h) ?_ ?_
 ·refine st 2 [] (k_ite H (fun c28 H => ?_) (fun c28 H => ?_))
  ·refine st 1 [] ?_
   exact k_end ⟨true, I, H, ⟨by kernel_rfl, by kernel_rfl, by kernel_rfl, by kernel_rfl, trivial⟩, hs.pk (.c d2 (.c d1 (.c d0 .n)))⟩
  ·refine st 1 [] ?_
   exact k_end ⟨false, I, H, ⟨by kernel_rfl, by kernel_rfl, by kernel_rfl, by kernel_rfl, trivial⟩, hs.pk (.c d2 (.c d1 (.c d0 .n)))⟩
 ·clear H
  rintro ρ h ⟨x29, I, H, hf, hs⟩
  refine k_fits _ hf ?_ rfl
  subst e89
  try dsimp only at H
  cases x29
  ·rw [cond_false] at H
   refine st 3 [false] (k_op (lN (hs.bl d1) 0 6 ?_))
   obtain ⟨hk, bk⟩ := hs.call tk0 .n
   refine st 1 [] (k_call H (fun _ m => field_round.calls (a21 := a21) (p22 := p22) (n23 := x0.Cells.length) m hk) ?_)
   rintro t56 _ h H ⟨I, _, ⟨b57, b58, b59, rfl, rfl, m60⟩, hk⟩
   replace hs := bk hk ct3 rfl
   refine st 1 [] ?_
   obtain ⟨s67, m68, HR69⟩ := bind_some H
   clear H
   obtain ⟨h66, eh66⟩ : ∃ h', h' = h := ⟨_, rfl⟩
   subst eh66
   refine k_loopW (range_st (p := 29) (enc := fun (x : Int) => .int .i64 x) (hs.pk (.c d3 (.c d3 (.f imON (.c d3 (.c d0 (.c d0 (.c d0 .n)))))))) (fun (pre : List Int) L => ∃ (rest : List Int), ∃ (x61 : List Int) (a62 : Option Addr) (p63 : Nat) (n64 : Nat), t56 = pre ++ rest ∧ (field_Cells.l2.m K x0 rest x61) = some s67 ∧ L = [rR t_api_Cell .b a21 p22 x0.Cells.length x0.Cells, rB b25 [.int .i64 x0.Rows, .int .i64 x0.Cols, .slice a21 x0.Cells.length p22, .int .i64 x0.Cursor, .bool x0.Locked, .bool x0.Insert] 24, rO (tInt .i64) .i a62 p63 n64 x61, rB b26 [.slice a62 n64 p63] 81, rB b57 [.int .i64 x0.Rows, .int .i64 x0.Cols, .slice a21 x0.Cells.length p22, .int .i64 x0.Cursor, .bool x0.Locked, .bool x0.Insert] 24, rB b58 [.int .i64 t27] 3, rB b59 [.int .i64 1] 3]) (mkY (fun _ => False) (fun i L => i = 2 ∧ ∃ (x71 : List Int) (a72 : Option Addr) (p73 : Nat) (n74 : Nat), x71 = s67 ∧ L = [rO (tInt .i64) .i a72 p73 n74 x71, rB b26 [.slice a72 n74 p73] 81])) ⟨t56, [], none, 0, 0, rfl, m68, rfl⟩ (by kernel_rfl) (enters_of Tryz.func120 rfl (by kernel_rfl)) (field_round.iter (a := a21) (p := p22) (n := x0.Cells.length) (b1 := b57) (b2 := b58) (b3 := b59) m60) ?_ (fun x => [(8, .int .i64 x), (29, .int .i64 x)]) ?_ rfl ?_) ?_ ?_ ?_
   ·rintro o pre L I h' ⟨rest, x61, a62, p63, n64, _, _, rfl⟩ hs
    exact ⟨(hs.bl d5).seg_ 0 6 (Nat.le_of_ble_eq_true rfl), (hs.bl d5).cell (off := 2) rfl, (hs.bl d6).cell (off := 0) rfl, (hs.bl d7).cell (off := 0) rfl, ⟨_, hs.bdG (k := .b), hs.rd d1⟩, rfl⟩
   ·intro x Q h' q
    refine st 3 [] ?_
    exact k_fin2 q
   ·rintro o pre x70 rest' L I h hx' ⟨rest, x61, a62, p63, n64, hx, H, rfl⟩ hs
    obtain rfl : rest = x70 :: rest' := List.append_cancel_left (hx.symm.trans hx')
    clear hx'
    obtain ⟨rest, erest⟩ : ∃ r, r = rest' := ⟨_, rfl⟩
    subst erest
    rw [field_Cells.l2.m] at H
    obtain rfl := hs.nO d3
    refine st 5 [] (k_op (lB (hs.bl d2) 2 rfl ?_))
    obtain ⟨c76, H⟩ := guard_pos H
    obtain ⟨c77, H⟩ := guard_pos H
    refine st 1 [] (k_val (elemPtr a21 (x70.toNat * 6)) (pI (e := 57) (ik := .i64) (hs.sR d1) c76 c77) ?_)
    refine k_val (elemPtr a21 (x70.toNat * 6 + 0)) (pF (off := 0) (hs.sR d1) c76 c77) ?_
    obtain ⟨y79, g78, q80⟩ := (hs.sR d1).toSl.seg c76 c77
    obtain rfl := t_api_Cell.open_ q80
    refine k_op (lC (seg_cell (f := 0) g78 rfl) ?_)
    refine k_spl H (fun c81 H => ?_) (fun c81 H => ?_)
    ·refine st 2 [true] ?_
     refine k_out rfl ?_
     obtain rfl := Option.some.inj H
     exact ⟨_, I, ⟨rfl, x61, a62, p63, x61.length, rfl, rfl⟩, hs.pk (.c d0 (.c d2 (.c d2 .n)))⟩
    ·refine st 4 [false] (k_op (lB (hs.bl d4) 0 rfl ?_))
     refine st 1 [] (k_op (nS (e := 3) hs .i (tInt .i64) ([x70] : List Int) [.int .i64 x70] 1 (.int .i64 0) (Reps.int (I := (Cl.G .i E.B I)) (k := .i64) (l := [x70])) ?_))
     intro b82 h hs
     replace hs := (hs.f d4)
     obtain ⟨l84, m85, H⟩ := bind_some H
     refine k_op (aO (e := 3) (bytes := 8) hs (hs.sO d1) m85 ?_)
     intro a86 p87 h hs
     refine k_op (sB (v := .slice a86 l84.length p87) (hs.f d5) cw0 ?_)
     intro h hs
     refine st 2 [] ?_
     refine k_fin ?_
     exact ⟨_, I, ⟨rest, l84, a86, p87, l84.length, by simp [hx], H, rfl⟩, hs.pk (.c d3 (.c d3 (.c d3 (.c d1 (.c d0 (.c d1 (.c d1 (.c d1 .n))))))))⟩
   ·intro h2 hk
    have key : ∃ (x71 : List Int) (a72 : Option Addr) (p73 : Nat) (n74 : Nat), ∃ (o : Obj) (I : Gh), x71 = s67 ∧ St E (rQ h66.size (h66.size + 1) o :: [rO (tInt .i64) .i a72 p73 n74 x71, rB b26 [.slice a72 n74 p73] 81]) I h2 := by
      rcases hk with ⟨o, L, I, ⟨rest, x61, a62, p63, n64, hx, H, rfl⟩, hs⟩ | ⟨o, L, I, hy, hs⟩
      · obtain rfl : rest = [] := List.append_cancel_left (hx.symm.trans (List.append_nil _).symm)
        rw [field_Cells.l2.m] at H
        obtain rfl := Option.some.inj H
        obtain rfl := hs.nO d3
        exact ⟨x61, a62, p63, x61.length, o, I, rfl, hs.pk (.c d0 (.c d2 (.c d2 .n)))⟩
      · obtain ⟨_, x71, a72, p73, n74, rfl, rfl⟩ := hy
        exact ⟨x71, a72, p73, n74, o, I, rfl, hs⟩
    obtain ⟨x71, a72, p73, n74, o, I, rfl, hs⟩ := key
    have H := HR69
    try dsimp only at H
    obtain rfl := hs.nO d1
    refine st 2 [] (k_op (lB (hs.bl d2) 0 rfl ?_))
    refine st 2 [] ?_
    refine k_retQ (krM ?_)
    obtain rfl := Option.some.inj H
    refine ⟨(hs.rqD d0).1, ?_⟩
    replace hs := hs.rqe
    exact ⟨_, by kernel_rfl, I, _, ⟨a72, p73, x71.length, rfl, rfl⟩, hs.pk (.c d0 .n)⟩
   ·rintro h2 ⟨o, L, I, hy, hs⟩
    exact hy.elim
   ·rintro i L ⟨rfl, _⟩
    rfl
  ·rw [cond_true] at H
   refine st 5 [true] (k_op (lB (hs.bl d1) 2 rfl ?_))
   refine st 4 [] ?_
   obtain ⟨s37, m44, HR43⟩ := bind_some H
   refine k_loop 0 (fun k' ρ h => ∃ (x31 : Int) (x32 : List Int) (a33 : Option Addr) (p34 : Nat) (n35 : Nat) (I : Gh), field_Cells.l1.m K x0 k' x31 x32 = some s37 ∧ Fits [(5, .pointer (some ⟨b26, 0, none⟩)), (16, .int .i64 (x0.Cells.length : Int)), (17, .int .i64 x31)] ρ ∧ St E [rO (tInt .i64) .i a33 p34 n35 x32, rB b26 [.slice a33 n35 p34] 81] I h) (fun ρ h => ∃ (x38 : List Int) (a39 : Option Addr) (p40 : Nat) (n41 : Nat) (I : Gh), x38 = s37 ∧ Fits [(5, .pointer (some ⟨b26, 0, none⟩))] ρ ∧ St E [rO (tInt .i64) .i a39 p40 n41 x38, rB b26 [.slice a39 n41 p40] 81] I h) K ⟨0, [], none, 0, 0, I, m44, ⟨by kernel_rfl, by kernel_rfl, by kernel_rfl, trivial⟩, hs.pk (.f imON (.c d2 .n))⟩ ?_ rfl ?_
   ·clear HR43 m44 H
    rintro k' ρ h ⟨x31, x32, a33, p34, n35, I, H, hf, hs⟩
    cases k' with
    | zero => cases H
    | succ k =>
     rw [field_Cells.l1.m] at H
     refine k_fits _ hf ?_ rfl
     obtain rfl := hs.nO d0
     refine st 1 [] ?_
     obtain ⟨j47, e55, H⟩ := letJ_some H
     refine k_join (fun ρ h => ∃ (x46 : Bool) (I : Gh), j47 x46 = some s37 ∧ Fits [(5, .pointer (some ⟨b26, 0, none⟩)), (16, .int .i64 (x0.Cells.length : Int)), (17, .int .i64 x31), (18, .bool x46)] ρ ∧ St E [rO (tInt .i64) .i a33 p34 x32.length x32, rB b26 [.slice a33 x32.length p34] 81] I h) ?_ ?_
     ·refine st 1 [] (k_ite H (fun c45 H => ?_) (fun c45 H => ?_))
      ·refine st 1 [] ?_
       exact k_end ⟨true, I, H, ⟨by kernel_rfl, by kernel_rfl, by kernel_rfl, by kernel_rfl, trivial⟩, hs.pk (.c d0 (.c d0 .n))⟩
      ·refine st 1 [] ?_
       exact k_end ⟨false, I, H, ⟨by kernel_rfl, by kernel_rfl, by kernel_rfl, by kernel_rfl, trivial⟩, hs.pk (.c d0 (.c d0 .n))⟩
     ·clear H
      rintro ρ h ⟨x46, I, H, hf, hs⟩
      refine k_fits _ hf ?_ rfl
      subst e55
      try dsimp only at H
      cases x46
      ·rw [cond_false] at H
       refine st 2 [false] ?_
       refine k_out rfl ?_
       obtain rfl := Option.some.inj H
       exact xE ⟨x32, a33, p34, x32.length, I, rfl, ⟨by kernel_rfl, trivial⟩, hs.pk (.c d0 (.c d0 .n))⟩
      ·rw [cond_true] at H
       refine st 11 [true] (k_op (lB (hs.bl d1) 0 rfl ?_))
       refine st 1 [] (k_op (nS (e := 3) hs .i (tInt .i64) ([x31] : List Int) [.int .i64 x31] 1 (.int .i64 0) (Reps.int (I := (Cl.G .i E.B I)) (k := .i64) (l := [x31])) ?_))
       intro b48 h hs
       replace hs := (hs.f d1)
       obtain ⟨l50, m51, H⟩ := bind_some H
       refine k_op (aO (e := 3) (bytes := 8) hs (hs.sO d1) m51 ?_)
       intro a52 p53 h hs
       refine k_op (sB (v := .slice a52 l50.length p53) (hs.f d2) cw0 ?_)
       intro h hs
       refine st 6 [] ?_
       exact k_endL ⟨k, Nat.lt_succ_self _, (w64 (x31 + 1)), l50, a52, p53, l50.length, I, H, ⟨by kernel_rfl, by kernel_rfl, by kernel_rfl, trivial⟩, hs.pk (.c d1 (.c d0 .n))⟩
   ·rintro ρ h ⟨x38, a39, p40, n41, I, rfl, hf, hs⟩
    have H := HR43
    try dsimp only at H
    refine k_fits _ hf ?_ rfl
    obtain rfl := hs.nO d0
    refine st 2 [] (k_op (lB (hs.bl d1) 0 rfl ?_))
    refine st 2 [] ?_
    refine k_retQ (krF ?_)
    obtain rfl := Option.some.inj H
    exact ⟨_, by kernel_rfl, I, _, ⟨a39, p40, x38.length, rfl, rfl⟩, hs.pk (.c d0 .n)⟩

/-! shutter/field.Begins -/
def field_Begins.l1.m (K : Nat) (x0 : api_Screen) : Nat → (List Int) → Int → Option ((List Int))
  | 0, _, _ => none
  | k + 1, x26, x31 => (letJ (α := Bool → Option ((List Int))) (fun (x41 : Bool) => (bif x41 then (if 0 ≤ x31 then (if x31 < (x0.Cells.length : Int) then (bif (at_ x0.Cells x31).Field then ((app x26 [x31]).bind fun l52 => (field_Begins.l1.m K x0 k l52 (w64 (x31 + 1)))) else (field_Begins.l1.m K x0 k x26 (w64 (x31 + 1)))) else none) else none) else (some (x26)))) fun (j42 : Bool → Option ((List Int))) => (if x31 < (x0.Cells.length : Int) then (j42 true) else (j42 false)))
def field_Begins.m (K : Nat) (x0 : api_Screen) : Option (List Int) :=
  ((field_Begins.l1.m K x0 K [] 0).bind fun x33 => (some x33))

theorem field_Begins.calls {B I : Gh} {h : Heap} {K : Nat} {x0 : api_Screen} {a21 : Option Addr} {p22 : Nat} {n23 : Nat} {r : (List Int)} (H : field_Begins.m K x0 = some r)  :
    Fc Tryz.prog 46 #[.agg #[.int .i64 x0.Rows, .int .i64 x0.Cols, .slice a21 n23 p22, .int .i64 x0.Cursor, .bool x0.Locked, .bool x0.Insert]] [rR t_api_Cell .b a21 p22 n23 x0.Cells] B I h (fun v L => ∃ (a58 : Option Addr) (p59 : Nat) (n60 : Nat), v = .slice a58 n60 p59 ∧ L = [rO (tInt .i64) .i a58 p59 n60 r]) := by
 refine fc_of fun E hs => ?_
 unfold field_Begins.m at H
 obtain rfl := hs.nR d0
 refine fn_of (args := [.agg #[.int .i64 x0.Rows, .int .i64 x0.Cols, .slice a21 x0.Cells.length p22, .int .i64 x0.Cursor, .bool x0.Locked, .bool x0.Insert]]) (rs := [.tmp 2]) (N := 22) Tryz.func46 rfl rfl rfl rfl ?_
 refine st 2 [] (k_op (nB hs [.int .i64 x0.Rows, .int .i64 x0.Cols, .slice a21 x0.Cells.length p22, .int .i64 x0.Cursor, .bool x0.Locked, .bool x0.Insert] ?_))
 intro b25 h hs
 refine st 10 [] (k_op (lB (hs.bl d0) 2 rfl ?_))
 refine st 4 [] ?_
 obtain ⟨s32, m39, HR38⟩ := bind_some H
 refine k_loop 0 (fun k' ρ h => ∃ (x26 : List Int) (x31 : Int) (a27 : Option Addr) (p28 : Nat) (n29 : Nat) (I : Gh), field_Begins.l1.m K x0 k' x26 x31 = some s32 ∧ Fits [(3, .slice a27 n29 p28), (7, .slice a21 x0.Cells.length p22), (8, .int .i64 (x0.Cells.length : Int)), (9, .int .i64 x31)] ρ ∧ St E [rO (tInt .i64) .i a27 p28 n29 x26, rR t_api_Cell .b a21 p22 x0.Cells.length x0.Cells] I h) (fun ρ h => ∃ (x33 : List Int) (a34 : Option Addr) (p35 : Nat) (n36 : Nat) (I : Gh), x33 = s32 ∧ Fits [(3, .slice a34 n36 p35)] ρ ∧ St E [rO (tInt .i64) .i a34 p35 n36 x33] I h) K ⟨[], 0, none, 0, 0, I, m39, ⟨by kernel_rfl, by kernel_rfl, by kernel_rfl, by kernel_rfl, trivial⟩, hs.pk (.f imON (.c d1 .n))⟩ ?_ rfl ?_
 ·clear HR38 m39 H
  rintro k' ρ h ⟨x26, x31, a27, p28, n29, I, H, hf, hs⟩
  cases k' with
  | zero => cases H
  | succ k =>
   rw [field_Begins.l1.m] at H
   refine k_fits _ hf ?_ rfl
   obtain rfl := hs.nO d0
   refine st 1 [] ?_
   obtain ⟨j42, e57, H⟩ := letJ_some H
   refine k_join (fun ρ h => ∃ (x41 : Bool) (I : Gh), j42 x41 = some s32 ∧ Fits [(3, .slice a27 x26.length p28), (7, .slice a21 x0.Cells.length p22), (8, .int .i64 (x0.Cells.length : Int)), (9, .int .i64 x31), (10, .bool x41)] ρ ∧ St E [rO (tInt .i64) .i a27 p28 x26.length x26, rR t_api_Cell .b a21 p22 x0.Cells.length x0.Cells] I h) ?_ ?_
   ·refine st 1 [] (k_ite H (fun c40 H => ?_) (fun c40 H => ?_))
    ·refine st 1 [] ?_
     exact k_end ⟨true, I, H, ⟨by kernel_rfl, by kernel_rfl, by kernel_rfl, by kernel_rfl, by kernel_rfl, trivial⟩, hs.pk (.c d0 (.c d0 .n))⟩
    ·refine st 1 [] ?_
     exact k_end ⟨false, I, H, ⟨by kernel_rfl, by kernel_rfl, by kernel_rfl, by kernel_rfl, by kernel_rfl, trivial⟩, hs.pk (.c d0 (.c d0 .n))⟩
   ·clear H
    rintro ρ h ⟨x41, I, H, hf, hs⟩
    refine k_fits _ hf ?_ rfl
    subst e57
    try dsimp only at H
    cases x41
    ·rw [cond_false] at H
     refine st 2 [false] ?_
     refine k_out rfl ?_
     obtain rfl := Option.some.inj H
     exact xE ⟨x26, a27, p28, x26.length, I, rfl, ⟨by kernel_rfl, trivial⟩, hs.pk (.c d0 .n)⟩
    ·rw [cond_true] at H
     obtain ⟨c43, H⟩ := guard_pos H
     obtain ⟨c44, H⟩ := guard_pos H
     refine st 8 [true] (k_val (elemPtr a21 (x31.toNat * 6)) (pI (e := 57) (ik := .i64) (hs.sR d1) c43 c44) ?_)
     obtain ⟨y46, g45, q47⟩ := (hs.sR d1).toSl.seg c43 c44
     obtain rfl := t_api_Cell.open_ q47
     refine k_op (lG g45 ?_)
     refine k_op (nA hs [.bool false, .bool false, .bool false, .int .i64 0, .bool false, .int .u8 0] (.agg #[.bool false, .bool false, .bool false, .int .i64 0, .bool false, .int .u8 0]) ?_)
     intro b48 h hs
     refine st 1 [] (k_op (sN hs 0 [.bool ((at_ x0.Cells x31).Field), .bool (((at_ x0.Cells x31).Attr).Protected), .bool (((at_ x0.Cells x31).Attr).Numeric), .int .i64 (((at_ x0.Cells x31).Attr).Show), .bool (((at_ x0.Cells x31).Attr).Modified), .int .u8 ((at_ x0.Cells x31).Char)] [.bool ((at_ x0.Cells x31).Field), .bool (((at_ x0.Cells x31).Attr).Protected), .bool (((at_ x0.Cells x31).Attr).Numeric), .int .i64 (((at_ x0.Cells x31).Attr).Show), .bool (((at_ x0.Cells x31).Attr).Modified), .int .u8 ((at_ x0.Cells x31).Char)] (ones_of rfl) ?_))
     intro h hs
     refine st 4 [] (k_op (lB (hs.bl d0) 0 rfl ?_))
     refine k_spl H (fun c49 H => ?_) (fun c49 H => ?_)
     ·refine st 5 [true] (k_op (nS (e := 3) hs .i (tInt .i64) ([x31] : List Int) [.int .i64 x31] 1 (.int .i64 0) (Reps.int (I := (Cl.G .i E.B I)) (k := .i64) (l := [x31])) ?_))
      intro b50 h hs
      replace hs := (hs.f d2)
      obtain ⟨l52, m53, H⟩ := bind_some H
      refine k_op (aO (e := 3) (bytes := 8) hs (hs.sO d1) m53 ?_)
      intro a54 p55 h hs
      refine st 7 [] ?_
      exact k_endL ⟨k, Nat.lt_succ_self _, l52, (w64 (x31 + 1)), a54, p55, l52.length, I, H, ⟨by kernel_rfl, by kernel_rfl, by kernel_rfl, by kernel_rfl, trivial⟩, hs.pk (.c d0 (.c d2 .n))⟩
     ·refine st 8 [false] ?_
      exact k_endL ⟨k, Nat.lt_succ_self _, x26, (w64 (x31 + 1)), a27, p28, x26.length, I, H, ⟨by kernel_rfl, by kernel_rfl, by kernel_rfl, by kernel_rfl, trivial⟩, hs.pk (.c d1 (.c d1 .n))⟩
 ·rintro ρ h ⟨x33, a34, p35, n36, I, rfl, hf, hs⟩
  have H := HR38
  try dsimp only at H
  refine k_fits _ hf ?_ rfl
  obtain rfl := hs.nO d0
  refine st 5 [] ?_
  refine k_retQ ?_
  obtain rfl := Option.some.inj H
  exact ⟨_, by kernel_rfl, I, _, ⟨a34, p35, x33.length, rfl, rfl⟩, hs.pk (.c d0 .n)⟩

/-! shutter/read.Modified -/
def read_Modified.l1.m (K : Nat) (x0 : api_Screen) (t48 : (List Int)) : Nat → Int → Int → Int → (List api_Entry) → Option (Int × Int × (List api_Entry))
  | 0, _, _, _, _ => none
  | k + 1, x53, x54, x55, x56 => (letJ (α := Bool → Option (Int × Int × (List api_Entry))) (fun (x72 : Bool) => (bif x72 then (if 0 ≤ x53 then (if x53 < (t48.length : Int) then (letJ (α := Bool → Option (Int × Int × (List api_Entry))) (fun (x82 : Bool) => (bif x82 then ((grid_On.m x0 (at_ t48 x53) 1).bind fun t84 => ((field_Cells.m K x0 (at_ t48 x53)).bind fun t85 => ((read_letters.m K x0 t85).bind fun t90 => ((app x56 [(⟨t84, t90⟩ : api_Entry)]).bind fun l97 => (read_Modified.l1.m K x0 t48 k (w64 (x53 + 1)) x54 x55 l97))))) else (read_Modified.l1.m K x0 t48 k (w64 (x53 + 1)) x54 x55 x56))) fun (j83 : Bool → Option (Int × Int × (List api_Entry))) => (if 0 ≤ (at_ t48 x53) then (if (at_ t48 x53) < (x0.Cells.length : Int) then (bif ((at_ x0.Cells (at_ t48 x53)).Attr).Modified then (j83 true) else (j83 false)) else none) else none)) else none) else none) else (some ((x54, x55, x56))))) fun (j73 : Bool → Option (Int × Int × (List api_Entry))) => (if x53 < (t48.length : Int) then (j73 true) else (j73 false)))
def read_Modified.m (K : Nat) (x0 : api_Screen) (x1 : Int) : Option (api_In × GoErr) :=
  (letJ (α := Bool → Option (api_In × GoErr)) (fun (x28 : Bool) => (bif x28 then (some ((⟨0, 0, []⟩ : api_In), (GoErr.no 3))) else ((attr_Bare.m x1).bind fun t30 => bif t30 then (some ((⟨x1, 0, []⟩ : api_In), GoErr.nil)) else (letJ (α := Bool → Option (api_In × GoErr)) (fun (x33 : Bool) => (bif x33 then ((field_Cells.m K x0 0).bind fun t35 => ((read_letters.m K x0 t35).bind fun t40 => (if (t40.length : Int) > 0 then (some ((⟨x1, x0.Cursor, [(⟨(-1), t40⟩ : api_Entry)]⟩ : api_In), GoErr.nil)) else (some ((⟨x1, x0.Cursor, []⟩ : api_In), GoErr.nil))))) else ((field_Begins.m K x0).bind fun t48 => ((read_Modified.l1.m K x0 t48 K 0 x1 x0.Cursor []).bind fun (x62, x63, x64) => (some ((⟨x62, x63, x64⟩ : api_In), GoErr.nil)))))) fun (j34 : Bool → Option (api_In × GoErr)) => ((field_Formatted.m K x0).bind fun t32 => bif t32 then (j34 false) else (j34 true)))))) fun (j29 : Bool → Option (api_In × GoErr)) => ((attr_Aid.m x1).bind fun t27 => bif t27 then (j29 false) else (j29 true)))

theorem read_Modified.calls {B I : Gh} {h : Heap} {K : Nat} {x0 : api_Screen} {x1 : Int} {a21 : Option Addr} {p22 : Nat} {n23 : Nat} {r : (api_In × GoErr)} (H : read_Modified.m K x0 x1 = some r)  :
    Fc Tryz.prog 16 #[.agg #[.int .i64 x0.Rows, .int .i64 x0.Cols, .slice a21 n23 p22, .int .i64 x0.Cursor, .bool x0.Locked, .bool x0.Insert], .int .u8 x1] [rR t_api_Cell .b a21 p22 n23 x0.Cells] B I h (fun v L => ∃ (a106 : Option Addr) (p107 : Nat) (n108 : Nat) (v110 : Value), v = .tuple #[.agg #[.int .u8 r.1.Aid, .int .i64 r.1.Cursor, .slice a106 n108 p107], v110] ∧ L = [rO t_api_Entry .i a106 p107 n108 r.1.Fields, rE .i v110 r.2]) := by
 refine fc_of fun E hs => ?_
 unfold read_Modified.m at H
 obtain rfl := hs.nR d0
 refine fn_of2 (args := [.agg #[.int .i64 x0.Rows, .int .i64 x0.Cols, .slice a21 x0.Cells.length p22, .int .i64 x0.Cursor, .bool x0.Locked, .bool x0.Insert], .int .u8 x1]) (rs := [.cell 4 46, .tmp 5]) (N := 70) Tryz.func16 rfl rfl rfl rfl ?_
 refine st 2 [] (k_op (nB hs [.int .i64 x0.Rows, .int .i64 x0.Cols, .slice a21 x0.Cells.length p22, .int .i64 x0.Cursor, .bool x0.Locked, .bool x0.Insert] ?_))
 intro b25 h hs
 refine k_op (nA hs [.int .u8 0, .int .i64 0, .slice none 0 0] (.agg #[.int .u8 0, .int .i64 0, .slice none 0 0]) ?_)
 intro b26 h hs
 refine st 5 [] ?_
 obtain ⟨j29, e105, H⟩ := letJ_some H
 refine k_join (fun ρ h => ∃ (x28 : Bool) (I : Gh), j29 x28 = some r ∧ Fits [(1, .int .u8 x1), (2, .pointer (some ⟨b25, 0, none⟩)), (4, .pointer (some ⟨b26, 0, none⟩)), (10, .bool x28)] ρ ∧ St E [rR t_api_Cell .b a21 p22 x0.Cells.length x0.Cells, rB b25 [.int .i64 x0.Rows, .int .i64 x0.Cols, .slice a21 x0.Cells.length p22, .int .i64 x0.Cursor, .bool x0.Locked, .bool x0.Insert] 24, rB b26 [.int .u8 0, .int .i64 0, .slice none 0 0] 46] I h) ?_ ?_
 ·refine st 2 [] (k_call H (fun _ m => attr_Aid.calls m) ?_)
  rintro t27 _ _ H ⟨rfl, rfl⟩
  cases t27
  ·rw [cond_false] at H
   refine st 3 [] ?_
   exact k_end ⟨true, I, H, ⟨by kernel_rfl, by kernel_rfl, by kernel_rfl, by kernel_rfl, trivial⟩, hs.pk (.c d2 (.c d1 (.c d0 .n)))⟩
  ·rw [cond_true] at H
   refine st 3 [] ?_
   exact k_end ⟨false, I, H, ⟨by kernel_rfl, by kernel_rfl, by kernel_rfl, by kernel_rfl, trivial⟩, hs.pk (.c d2 (.c d1 (.c d0 .n)))⟩
 ·clear H
  rintro ρ h ⟨x28, I, H, hf, hs⟩
  refine k_fits _ hf ?_ rfl
  subst e105
  try dsimp only at H
  cases x28
  ·rw [cond_false] at H
   refine st 4 [false] (k_call H (fun _ m => attr_Bare.calls m) ?_)
   rintro t30 _ _ H ⟨rfl, rfl⟩
   cases t30
   ·rw [cond_false] at H
    refine st 9 [false] (k_op (lB (hs.bl d1) 3 rfl ?_))
    refine st 1 [] (k_op (nA hs [.int .u8 0, .int .i64 0, .slice none 0 0] (.agg #[.int .u8 0, .int .i64 0, .slice none 0 0]) ?_))
    intro b31 h hs
    refine k_op (sN hs 0 [.int .u8 x1, .int .i64 x0.Cursor, .slice none 0 0] [.int .u8 x1, .int .i64 x0.Cursor, .slice none 0 0] (ones_of rfl) ?_)
    intro h hs
    refine st 3 [] ?_
    obtain ⟨j34, e104, H⟩ := letJ_some H
    refine k_join (fun ρ h => ∃ (x33 : Bool) (I : Gh), j34 x33 = some r ∧ Fits [(2, .pointer (some ⟨b25, 0, none⟩)), (4, .pointer (some ⟨b26, 0, none⟩)), (6, .pointer (some ⟨b31, 0, none⟩)), (27, .bool x33)] ρ ∧ St E [rR t_api_Cell .b a21 p22 x0.Cells.length x0.Cells, rB b25 [.int .i64 x0.Rows, .int .i64 x0.Cols, .slice a21 x0.Cells.length p22, .int .i64 x0.Cursor, .bool x0.Locked, .bool x0.Insert] 24, rB b26 [.int .u8 0, .int .i64 0, .slice none 0 0] 46, rB b31 [.int .u8 x1, .int .i64 x0.Cursor, .slice none 0 0] 46] I h) ?_ ?_
    ·refine st 1 [] (k_op (lN (hs.bl d2) 0 6 ?_))
     obtain ⟨hk, bk⟩ := hs.call tk0 (.c (qB d1) .n)
     refine k_call H (fun _ m => field_Formatted.calls m hk) ?_
     rintro t32 _ h H ⟨I, _, ⟨rfl, rfl⟩, hk⟩
     replace hs := bk hk ct0 rfl
     cases t32
     ·rw [cond_false] at H
      refine st 2 [] ?_
      exact k_end ⟨true, I, H, ⟨by kernel_rfl, by kernel_rfl, by kernel_rfl, by kernel_rfl, trivial⟩, hs.pk (.c d1 (.c d1 (.c d1 (.c d0 .n))))⟩
     ·rw [cond_true] at H
      refine st 2 [] ?_
      exact k_end ⟨false, I, H, ⟨by kernel_rfl, by kernel_rfl, by kernel_rfl, by kernel_rfl, trivial⟩, hs.pk (.c d1 (.c d1 (.c d1 (.c d0 .n))))⟩
    ·clear H
     rintro ρ h ⟨x33, I, H, hf, hs⟩
     refine k_fits _ hf ?_ rfl
     subst e104
     try dsimp only at H
     cases x33
     ·rw [cond_false] at H
      refine st 5 [false] (k_op (lN (hs.bl d1) 0 6 ?_))
      obtain ⟨hk, bk⟩ := hs.call tk0 (.c (qB d0) .n)
      refine k_call H (fun _ m => field_Begins.calls m hk) ?_
      rintro t48 _ h H ⟨I, _, ⟨a49, p50, n51, rfl, rfl⟩, hk⟩
      replace hs := bk hk ct1 rfl
      obtain rfl := hs.nO d0
      refine st 4 [] ?_
      obtain ⟨s61, m70, HR69⟩ := bind_some H
      refine k_loop 1 (fun k' ρ h => ∃ (x53 : Int) (x54 : Int) (x55 : Int) (x56 : List api_Entry) (a57 : Option Addr) (p58 : Nat) (n59 : Nat) (I : Gh), read_Modified.l1.m K x0 t48 k' x53 x54 x55 x56 = some s61 ∧ Fits [(2, .pointer (some ⟨b25, 0, none⟩)), (4, .pointer (some ⟨b26, 0, none⟩)), (6, .pointer (some ⟨b31, 0, none⟩)), (41, .slice a49 t48.length p50), (42, .int .i64 (t48.length : Int)), (43, .int .i64 x53)] ρ ∧ St E [rO (tInt .i64) .i a49 p50 t48.length t48, rR t_api_Cell .b a21 p22 x0.Cells.length x0.Cells, rB b25 [.int .i64 x0.Rows, .int .i64 x0.Cols, .slice a21 x0.Cells.length p22, .int .i64 x0.Cursor, .bool x0.Locked, .bool x0.Insert] 24, rB b26 [.int .u8 0, .int .i64 0, .slice none 0 0] 46, rO t_api_Entry .i a57 p58 n59 x56, rB b31 [.int .u8 x54, .int .i64 x55, .slice a57 n59 p58] 46] I h) (fun ρ h => ∃ (x62 : Int) (x63 : Int) (x64 : List api_Entry) (a65 : Option Addr) (p66 : Nat) (n67 : Nat) (I : Gh), (x62, x63, x64) = s61 ∧ Fits [(4, .pointer (some ⟨b26, 0, none⟩)), (6, .pointer (some ⟨b31, 0, none⟩))] ρ ∧ St E [rB b26 [.int .u8 0, .int .i64 0, .slice none 0 0] 46, rO t_api_Entry .i a65 p66 n67 x64, rB b31 [.int .u8 x62, .int .i64 x63, .slice a65 n67 p66] 46] I h) K ⟨0, x1, x0.Cursor, [], none, 0, 0, I, m70, ⟨by kernel_rfl, by kernel_rfl, by kernel_rfl, by kernel_rfl, by kernel_rfl, by kernel_rfl, trivial⟩, hs.pk (.c d0 (.c d0 (.c d0 (.c d0 (.f imON (.c d0 .n))))))⟩ ?_ rfl ?_
      ·clear HR69 m70 H
       rintro k' ρ h ⟨x53, x54, x55, x56, a57, p58, n59, I, H, hf, hs⟩
       cases k' with
       | zero => cases H
       | succ k =>
        rw [read_Modified.l1.m] at H
        refine k_fits _ hf ?_ rfl
        obtain rfl := hs.nO d4
        refine st 1 [] ?_
        obtain ⟨j73, e103, H⟩ := letJ_some H
        refine k_join (fun ρ h => ∃ (x72 : Bool) (I : Gh), j73 x72 = some s61 ∧ Fits [(2, .pointer (some ⟨b25, 0, none⟩)), (4, .pointer (some ⟨b26, 0, none⟩)), (6, .pointer (some ⟨b31, 0, none⟩)), (41, .slice a49 t48.length p50), (42, .int .i64 (t48.length : Int)), (43, .int .i64 x53), (44, .bool x72)] ρ ∧ St E [rO (tInt .i64) .i a49 p50 t48.length t48, rR t_api_Cell .b a21 p22 x0.Cells.length x0.Cells, rB b25 [.int .i64 x0.Rows, .int .i64 x0.Cols, .slice a21 x0.Cells.length p22, .int .i64 x0.Cursor, .bool x0.Locked, .bool x0.Insert] 24, rB b26 [.int .u8 0, .int .i64 0, .slice none 0 0] 46, rO t_api_Entry .i a57 p58 x56.length x56, rB b31 [.int .u8 x54, .int .i64 x55, .slice a57 x56.length p58] 46] I h) ?_ ?_
        ·refine st 1 [] (k_ite H (fun c71 H => ?_) (fun c71 H => ?_))
         ·refine st 1 [] ?_
          exact k_end ⟨true, I, H, ⟨by kernel_rfl, by kernel_rfl, by kernel_rfl, by kernel_rfl, by kernel_rfl, by kernel_rfl, by kernel_rfl, trivial⟩, hs.pk (.c d0 (.c d0 (.c d0 (.c d0 (.c d0 (.c d0 .n))))))⟩
         ·refine st 1 [] ?_
          exact k_end ⟨false, I, H, ⟨by kernel_rfl, by kernel_rfl, by kernel_rfl, by kernel_rfl, by kernel_rfl, by kernel_rfl, by kernel_rfl, trivial⟩, hs.pk (.c d0 (.c d0 (.c d0 (.c d0 (.c d0 (.c d0 .n))))))⟩
        ·clear H
         rintro ρ h ⟨x72, I, H, hf, hs⟩
         refine k_fits _ hf ?_ rfl
         subst e103
         try dsimp only at H
         cases x72
         ·rw [cond_false] at H
          refine st 2 [false] ?_
          refine k_out rfl ?_
          obtain rfl := Option.some.inj H
          exact xE ⟨x54, x55, x56, a57, p58, x56.length, I, rfl, ⟨by kernel_rfl, by kernel_rfl, trivial⟩, hs.pk (.c d3 (.c d3 (.c d3 .n)))⟩
         ·rw [cond_true] at H
          obtain ⟨c74, H⟩ := guard_pos H
          obtain ⟨c75, H⟩ := guard_pos H
          refine st 7 [true] (k_val (elemPtr a49 (x53.toNat * 1)) (pI (e := 3) (ik := .i64) (hs.sO d0) c74 c75) ?_)
          refine k_op (lC ((hs.sO d0).cell1 c74 c75) ?_)
          refine st 3 [] ?_
          obtain ⟨j83, e102, H⟩ := letJ_some H
          refine k_join (fun ρ h => ∃ (x82 : Bool) (I : Gh), j83 x82 = some s61 ∧ Fits [(2, .pointer (some ⟨b25, 0, none⟩)), (4, .pointer (some ⟨b26, 0, none⟩)), (6, .pointer (some ⟨b31, 0, none⟩)), (9, .int .i64 (at_ t48 x53)), (41, .slice a49 t48.length p50), (42, .int .i64 (t48.length : Int)), (43, .int .i64 x53), (53, .bool x82)] ρ ∧ St E [rO (tInt .i64) .i a49 p50 t48.length t48, rR t_api_Cell .b a21 p22 x0.Cells.length x0.Cells, rB b25 [.int .i64 x0.Rows, .int .i64 x0.Cols, .slice a21 x0.Cells.length p22, .int .i64 x0.Cursor, .bool x0.Locked, .bool x0.Insert] 24, rB b26 [.int .u8 0, .int .i64 0, .slice none 0 0] 46, rO t_api_Entry .i a57 p58 x56.length x56, rB b31 [.int .u8 x54, .int .i64 x55, .slice a57 x56.length p58] 46] I h) ?_ ?_
          ·refine st 2 [] (k_op (lB (hs.bl d2) 2 rfl ?_))
           obtain ⟨c76, H⟩ := guard_pos H
           obtain ⟨c77, H⟩ := guard_pos H
           refine st 1 [] (k_val (elemPtr a21 ((at_ t48 x53).toNat * 6)) (pI (e := 57) (ik := .i64) (hs.sR d1) c76 c77) ?_)
           refine k_val (elemPtr a21 ((at_ t48 x53).toNat * 6 + 1)) (pF (off := 1) (hs.sR d1) c76 c77) ?_
           refine k_val (elemPtr a21 ((at_ t48 x53).toNat * 6 + 1 + 3)) (pF (off := 3) (hs.sR d1) c76 c77) ?_
           obtain ⟨y79, g78, q80⟩ := (hs.sR d1).toSl.seg c76 c77
           obtain rfl := t_api_Cell.open_ q80
           refine k_op (lC (seg_cell (f := 4) g78 rfl) ?_)
           refine k_spl H (fun c81 H => ?_) (fun c81 H => ?_)
           ·refine st 1 [] ?_
            exact k_end ⟨true, I, H, ⟨by kernel_rfl, by kernel_rfl, by kernel_rfl, by kernel_rfl, by kernel_rfl, by kernel_rfl, by kernel_rfl, by kernel_rfl, trivial⟩, hs.pk (.c d0 (.c d0 (.c d0 (.c d0 (.c d0 (.c d0 .n))))))⟩
           ·refine st 1 [] ?_
            exact k_end ⟨false, I, H, ⟨by kernel_rfl, by kernel_rfl, by kernel_rfl, by kernel_rfl, by kernel_rfl, by kernel_rfl, by kernel_rfl, by kernel_rfl, trivial⟩, hs.pk (.c d0 (.c d0 (.c d0 (.c d0 (.c d0 (.c d0 .n))))))⟩
          ·clear H
           rintro ρ h ⟨x82, I, H, hf, hs⟩
           refine k_fits _ hf ?_ rfl
           subst e102
           try dsimp only at H
           cases x82
           ·rw [cond_false] at H
            refine st 7 [false] ?_
            exact k_endL ⟨k, Nat.lt_succ_self _, (w64 (x53 + 1)), x54, x55, x56, a57, p58, x56.length, I, H, ⟨by kernel_rfl, by kernel_rfl, by kernel_rfl, by kernel_rfl, by kernel_rfl, by kernel_rfl, trivial⟩, hs.pk (.c d0 (.c d0 (.c d0 (.c d0 (.c d0 (.c d0 .n))))))⟩
           ·rw [cond_true] at H
            refine st 1 [true] ?_
            obtain ⟨hs0, bk0⟩ := hs.call tk0 (.c (qL d5) (.c (qL d2) (.c (qB d1) .n)))
            have hs := hs0
            refine k_regD hs0 12 ?_
            refine aRun [0] 14 hs.keep ?_
            refine aL 1 rfl hs.keep (ll hs0 d0 (n := 2) rfl) (nmL hs0 d0) ?_
            refine aG 2 rfl hs.keep (lls hs0 d1 0 6 rfl) (nmL hs0 d1) ?_
            refine aRun [3] 11 hs.keep ?_
            refine aG 5 rfl hs.keep (lls hs0 d1 0 6 rfl) (nmL hs0 d1) ?_
            refine aG 6 rfl hs.keep (lls hs0 d1 0 6 rfl) (nmL hs0 d1) ?_
            refine aRun [7] 8 hs.keep ?_
            obtain ⟨hk, bk⟩ := hs.call tk0 (.c (qB d2) .n)
            refine aO1 4 rfl (o_call H (fun _ m => grid_On.calls m hk) ?_)
            rintro t84 _ h H ⟨I, _, ⟨rfl, rfl⟩, hk⟩
            replace hs := bk hk ct0 rfl
            refine ⟨hs.keep, ?_⟩
            obtain ⟨hk, bk⟩ := hs.call tk0 (.c (qB d2) .n)
            refine aO1 8 rfl (o_call H (fun _ m => field_Cells.calls m hk) ?_)
            rintro t85 _ h H ⟨I, _, ⟨a86, p87, n88, rfl, rfl⟩, hk⟩
            replace hs := bk hk ct1 rfl
            obtain rfl := hs.nO d0
            refine ⟨hs.keep, ?_⟩
            obtain ⟨hk, bk⟩ := hs.call tk0 (.c (qB d3) (.c (qO d0) .n))
            refine aO1 9 rfl (o_call H (fun _ m => read_letters.calls m hk) ?_)
            rintro t90 _ h H ⟨I, _, ⟨a91, p92, n93, rfl, rfl⟩, hk⟩
            replace hs := bk hk ct1 rfl
            obtain rfl := hs.nO d0
            refine ⟨hs.keep, ?_⟩
            obtain ⟨I, hs⟩ := hs.fO
            refine aRun [10] 4 hs.keep ?_
            refine aO1 11 rfl (nS (e := 67) hs .i t_api_Entry ([(⟨t84, t90⟩ : api_Entry)] : List api_Entry) [.int .i64 t84, .slice a91 t90.length p92] 2 (.agg #[.int .i64 0, .slice none 0 0]) (Reps.cons (T := t_api_Entry) (c := [.int .i64 t84, .slice a91 t90.length p92]) (x := (⟨t84, t90⟩ : api_Entry)) ⟨_, _, _, rfl, (hs.g d0)⟩ (.nil : Reps t_api_Entry (Cl.G .i E.B I) h [] [])) ?_)
            intro b95 h hs
            refine ⟨hs.keep, ?_⟩
            replace hs := hs.pk (.c d0 (.c d0 (.c d0 .n)))
            replace hs := bk0 hs ct3 rfl
            replace hs := (hs.f d7)
            obtain ⟨l97, m98, H⟩ := bind_some H
            refine aOL 12 rfl (aO (e := 67) (bytes := 32) hs (hs.sO d1) m98 ?_)
            intro a99 p100 h hs
            refine aOL 13 rfl (owp_pure (.pointer (some ⟨b31, 2, none⟩)) (by kernel_rfl) ?_)
            refine aOL 14 rfl (sB (v := .slice a99 l97.length p100) (hs.f d8) cw2 ?_)
            intro h hs
            refine aEnd ?_
            refine st 5 [] ?_
            exact k_endL ⟨k, Nat.lt_succ_self _, (w64 (x53 + 1)), x54, x55, l97, a99, p100, l97.length, I, H, ⟨by kernel_rfl, by kernel_rfl, by kernel_rfl, by kernel_rfl, by kernel_rfl, by kernel_rfl, trivial⟩, hs.pk (.c d5 (.c d5 (.c d5 (.c d5 (.c d1 (.c d0 .n))))))⟩
      ·rintro ρ h ⟨x62, x63, x64, a65, p66, n67, I, rfl, hf, hs⟩
       have H := HR69
       try dsimp only at H
       refine k_fits _ hf ?_ rfl
       obtain rfl := hs.nO d1
       refine st 2 [] (k_op (lN (hs.bl d2) 0 3 ?_))
       refine k_op (sN hs 0 [.int .u8 x62, .int .i64 x63, .slice a65 x64.length p66] [.int .u8 x62, .int .i64 x63, .slice a65 x64.length p66] (ones_of rfl) ?_)
       intro h hs
       refine st 2 [] ?_
       refine k_retQ ?_
       obtain rfl := Option.some.inj H
       exact ⟨[.agg #[.int .u8 x62, .int .i64 x63, .slice a65 x64.length p66], .nilIface], (.cons (.agg (by kernel_rfl) (by kernel_rfl) (by kernel_rfl) ((hs.bl d0).seg_ 0 3 (Nat.le_of_ble_eq_true rfl))) (.cons (.tmp (by kernel_rfl)) .nil)), I, _, ⟨a65, p66, x64.length, (.nilIface), rfl, rfl⟩, hs.pk (.c d1 (.f imEN .n))⟩
     ·rw [cond_true] at H
      refine st 3 [true] ?_
      obtain ⟨hs0, bk0⟩ := hs.call tk0 (.c (qL d1) (.c (qB d0) .n))
      have hs := hs0
      refine k_regD hs0 5 ?_
      refine aG 0 rfl hs.keep (lls hs0 d0 0 6 rfl) (nmL hs0 d0) ?_
      refine aG 1 rfl hs.keep (lls hs0 d0 0 6 rfl) (nmL hs0 d0) ?_
      obtain ⟨hk, bk⟩ := hs.call tk0 (.c (qB d1) .n)
      refine aO1 2 rfl (o_call H (fun _ m => field_Cells.calls m hk) ?_)
      rintro t35 _ h H ⟨I, _, ⟨a36, p37, n38, rfl, rfl⟩, hk⟩
      replace hs := bk hk ct1 rfl
      obtain rfl := hs.nO d0
      refine ⟨hs.keep, ?_⟩
      obtain ⟨hk, bk⟩ := hs.call tk0 (.c (qB d2) (.c (qO d0) .n))
      refine aO1 3 rfl (o_call H (fun _ m => read_letters.calls m hk) ?_)
      rintro t40 _ h H ⟨I, _, ⟨a41, p42, n43, rfl, rfl⟩, hk⟩
      replace hs := bk hk ct1 rfl
      obtain rfl := hs.nO d0
      refine ⟨hs.keep, ?_⟩
      refine aRun [4] 0 hs.keep ?_
      replace hs := hs.pk (.c d0 (.c d0 .n))
      replace hs := bk0 hs ct2 rfl
      refine aEnd ?_
      refine st 4 [] (k_ite H (fun c45 H => ?_) (fun c45 H => ?_))
      ·obtain ⟨I, hs⟩ := hs.fO
       refine st 5 [true] (k_op (nS (e := 67) hs .i t_api_Entry ([(⟨(-1), t40⟩ : api_Entry)] : List api_Entry) [.int .i64 (-1), .slice a41 t40.length p42] 2 (.agg #[.int .i64 0, .slice none 0 0]) (Reps.cons (T := t_api_Entry) (c := [.int .i64 (-1), .slice a41 t40.length p42]) (x := (⟨(-1), t40⟩ : api_Entry)) ⟨_, _, _, rfl, (hs.g d0)⟩ (.nil : Reps t_api_Entry (Cl.G .i E.B I) h [] [])) ?_))
       intro b46 h hs
       refine st 1 [] (k_op (sB (v := .slice (some ⟨b46, 0, none⟩) 1 1) (hs.f d6) cw2 ?_))
       intro h hs
       refine st 3 [] (k_op (lN (hs.bl d0) 0 3 ?_))
       refine k_op (sN (hs.f d6) 0 [.int .u8 x1, .int .i64 x0.Cursor, .slice (some ⟨b46, 0, none⟩) 1 1] [.int .u8 x1, .int .i64 x0.Cursor, .slice (some ⟨b46, 0, none⟩) 1 1] (ones_of rfl) ?_)
       intro h hs
       refine st 2 [] ?_
       refine k_retQ ?_
       obtain rfl := Option.some.inj H
       exact ⟨[.agg #[.int .u8 x1, .int .i64 x0.Cursor, .slice (some ⟨b46, 0, none⟩) 1 1], .nilIface], (.cons (.agg (by kernel_rfl) (by kernel_rfl) (by kernel_rfl) ((hs.bl d0).seg_ 0 3 (Nat.le_of_ble_eq_true rfl))) (.cons (.tmp (by kernel_rfl)) .nil)), I, _, ⟨(some ⟨b46, 0, none⟩), 1, 1, (.nilIface), rfl, rfl⟩, hs.pk (.c d2 (.f imEN .n))⟩
      ·refine st 5 [false] (k_op (lN (hs.bl d5) 0 3 ?_))
       refine k_op (sN (hs.f d4) 0 [.int .u8 x1, .int .i64 x0.Cursor, .slice none 0 0] [.int .u8 x1, .int .i64 x0.Cursor, .slice none 0 0] (ones_of rfl) ?_)
       intro h hs
       refine st 2 [] ?_
       refine k_retQ ?_
       obtain rfl := Option.some.inj H
       exact ⟨[.agg #[.int .u8 x1, .int .i64 x0.Cursor, .slice none 0 0], .nilIface], (.cons (.agg (by kernel_rfl) (by kernel_rfl) (by kernel_rfl) ((hs.bl d0).seg_ 0 3 (Nat.le_of_ble_eq_true rfl))) (.cons (.tmp (by kernel_rfl)) .nil)), I, _, ⟨none, 0, 0, (.nilIface), rfl, rfl⟩, hs.pk (.f imON (.f imEN .n))⟩
   ·rw [cond_true] at H
    refine st 7 [true] (k_op (sN (hs.f d2) 0 [.int .u8 x1, .int .i64 0, .slice none 0 0] [.int .u8 x1, .int .i64 0, .slice none 0 0] (ones_of rfl) ?_))
    intro h hs
    refine st 2 [] ?_
    refine k_retQ ?_
    obtain rfl := Option.some.inj H
    exact ⟨[.agg #[.int .u8 x1, .int .i64 0, .slice none 0 0], .nilIface], (.cons (.agg (by kernel_rfl) (by kernel_rfl) (by kernel_rfl) ((hs.bl d0).seg_ 0 3 (Nat.le_of_ble_eq_true rfl))) (.cons (.tmp (by kernel_rfl)) .nil)), I, _, ⟨none, 0, 0, (.nilIface), rfl, rfl⟩, hs.pk (.f imON (.f imEN .n))⟩
  ·rw [cond_true] at H
   refine st 5 [true] (k_op (sN (hs.f d2) 0 [.int .u8 0, .int .i64 0, .slice none 0 0] [.int .u8 0, .int .i64 0, .slice none 0 0] (ones_of rfl) ?_))
   intro h hs
   refine st 2 [] ?_
   refine k_retQ ?_
   obtain rfl := Option.some.inj H
   exact ⟨[.agg #[.int .u8 0, .int .i64 0, .slice none 0 0], .iface 71 (.int .i64 3)], (.cons (.agg (by kernel_rfl) (by kernel_rfl) (by kernel_rfl) ((hs.bl d0).seg_ 0 3 (Nat.le_of_ble_eq_true rfl))) (.cons (.tmp (by kernel_rfl)) .nil)), I, _, ⟨none, 0, 0, (.iface 71 (.int .i64 3)), rfl, rfl⟩, hs.pk (.f imON (.f imEC .n))⟩

/-! shutter/read.Image -/
abbrev zA : api_Attr := ⟨false, false, 0, false⟩
abbrev oc (k : Int) (v : Value) (t : api_Attr) (ad : Int) : List Value := [.int .i64 k, v, .bool t.Protected, .bool t.Numeric, .int .i64 t.Show, .bool t.Modified, .int .i64 ad, .int .u8 0]
abbrev oz : Value := .agg #[.int .i64 0, .slice none 0 0, .bool false, .bool false, .int .i64 0, .bool false, .int .i64 0, .int .u8 0]
theorem oc_rep {I : Gh} {h : Heap} (k : Int) (t : api_Attr) (ad : Int) : t_api_Order.rep I h (oc k (.slice none 0 0) t ad) ⟨k, [], t, ad, 0⟩ := ⟨none, 0, 0, rfl, rd_nil _ _ _, rfl⟩
def read_Image.l1.m (K : Nat) (x0 : api_Screen) : Nat → Int → List api_Order → Option (List api_Order)
  | 0, _, _ => none
  | k + 1, i, out => (if i < (x0.Cells.length : Int) then (if 0 ≤ i then (bif (at_ x0.Cells i).Field then ((app out [(⟨2, [], (at_ x0.Cells i).Attr, 0, 0⟩ : api_Order)]).bind fun l => read_Image.l1.m K x0 k (w64 (i + 1)) l)
      else (match out.getLast? with
        | none => none
        | some o => (if o.Kind = 1 then ((app o.Text [(at_ x0.Cells i).Char]).bind fun t => read_Image.l1.m K x0 k (w64 (i + 1)) (out.dropLast ++ [(⟨1, t, zA, 0, 0⟩ : api_Order)])) else ((app out [(⟨1, [(at_ x0.Cells i).Char], zA, 0, 0⟩ : api_Order)]).bind fun l => read_Image.l1.m K x0 k (w64 (i + 1)) l)))) else none) else (some out))
def read_Image.m (K : Nat) (x0 : api_Screen) : Option (List api_Order) :=
  ((read_Image.l1.m K x0 K 0 [(⟨3, [], zA, 0, 0⟩ : api_Order)]).bind fun out => (if x0.Cursor = 0 then (app out [(⟨4, [], zA, 0, 0⟩ : api_Order)]) else ((app out [(⟨3, [], zA, x0.Cursor, 0⟩ : api_Order)]).bind fun l => app l [(⟨4, [], zA, 0, 0⟩ : api_Order)])))
abbrev scr (x0 : api_Screen) (a : Option Addr) (p : Nat) : List Value := [.int .i64 x0.Rows, .int .i64 x0.Cols, .slice a x0.Cells.length p, .int .i64 x0.Cursor, .bool x0.Locked, .bool x0.Insert]
/-- The last order is none of text. -/
def ImgC (E : En) (x0 : api_Screen) (a : Option Addr) (p b1 : Nat) (ao : Option Addr) (co : Nat) (raws : List (List Value)) (out : List api_Order) (I : Gh) (h : Heap) : Prop :=
  ∃ out0 o, out = out0 ++ [o] ∧ o.Kind ≠ 1 ∧ St E [rO (tRaw 8) .i ao co raws.length raws, rA t_api_Order raws out, rB b1 (scr x0 a p) 24, rR t_api_Cell .b a p x0.Cells.length x0.Cells] I h
/-- The last order is text, which is still the call's own. -/
def ImgO (E : En) (x0 : api_Screen) (a : Option Addr) (p b1 : Nat) (ao : Option Addr) (co : Nat) (raws : List (List Value)) (out : List api_Order) (I : Gh) (h : Heap) : Prop :=
  ∃ raws0 out0 ta tc t, raws = raws0 ++ [oc 1 (.slice ta (List.length t) tc) zA 0] ∧ out = out0 ++ [⟨1, t, zA, 0, 0⟩] ∧ List.length raws0 = List.length out0 ∧
    St E [rO (tRaw 8) .i ao co raws.length raws, rO (tInt .u8) .i ta tc (List.length t) t, rA t_api_Order raws0 out0, rB b1 (scr x0 a p) 24, rR t_api_Cell .b a p x0.Cells.length x0.Cells] I h
theorem img_close {E : En} {x0 : api_Screen} {a : Option Addr} {p b1 : Nat} {ao : Option Addr} {co : Nat} {raws : List (List Value)} {out : List api_Order} {I : Gh} {h : Heap} (q : ImgC E x0 a p b1 ao co raws out I h ∨ ImgO E x0 a p b1 ao co raws out I h) :
    ∃ I', St E [rO (tRaw 8) .i ao co raws.length raws, rA t_api_Order raws out, rB b1 (scr x0 a p) 24, rR t_api_Cell .b a p x0.Cells.length x0.Cells] I' h := by
  rcases q with ⟨_, _, _, _, hs⟩ | ⟨raws0, out0, ta, tc, t, rfl, rfl, _, hs⟩
  · exact ⟨I, hs⟩
  · obtain ⟨I', hs⟩ := (hs.f d1).fO
    have rd : Rd (tInt .u8) I' h ta tc t := hs.rd d0
    have hs2 := (hs.f d2).rA1 (cs := oc 1 (.slice ta (List.length t) tc) zA 0) (x := ⟨1, t, zA, 0, 0⟩) ⟨ta, tc, List.length t, rfl, rd, rfl⟩
    exact ⟨I', hs2.pk (.c d2 (.c d0 (.c d1 (.c d1 .n))))⟩
theorem img_len {E : En} {x0 : api_Screen} {a : Option Addr} {p b1 : Nat} {ao : Option Addr} {co : Nat} {raws : List (List Value)} {out : List api_Order} {I : Gh} {h : Heap} (q : ImgC E x0 a p b1 ao co raws out I h ∨ ImgO E x0 a p b1 ao co raws out I h) :
    raws.length = out.length ∧ 1 ≤ out.length := by
  rcases q with ⟨_, _, rfl, _, hs⟩ | ⟨raws0, out0, ta, tc, t, rfl, rfl, e, hs⟩
  · exact ⟨(hs.g d1).1, by simp⟩
  · simp [e]

theorem read_Image.calls {B I : Gh} {h : Heap} {K : Nat} {x0 : api_Screen} {a21 : Option Addr} {p22 : Nat} {n23 : Nat} {r : (List api_Order)} (H : read_Image.m K x0 = some r) :
    Fc Tryz.prog 25 #[.agg #[.int .i64 x0.Rows, .int .i64 x0.Cols, .slice a21 n23 p22, .int .i64 x0.Cursor, .bool x0.Locked, .bool x0.Insert]] [rR t_api_Cell .b a21 p22 n23 x0.Cells] B I h (fun v L => ∃ (a24 : Option Addr) (p25 : Nat) (n26 : Nat), v = .slice a24 n26 p25 ∧ L = [rO t_api_Order .i a24 p25 n26 r]) := by
 refine fc_of fun E hs => ?_
 unfold read_Image.m at H
 obtain rfl := hs.nR d0
 refine fn_of (args := [.agg #[.int .i64 x0.Rows, .int .i64 x0.Cols, .slice a21 x0.Cells.length p22, .int .i64 x0.Cursor, .bool x0.Locked, .bool x0.Insert]]) (rs := [.tmp 2]) (N := 68) Tryz.func25 rfl rfl rfl rfl ?_
 refine st 2 [] (k_op (nB hs (scr x0 a21 p22) ?_))
 intro b1 h hs
 refine st 5 [] (k_op (nS (e := 76) hs .i (tRaw 8) [oc 3 (.slice none 0 0) zA 0] (oc 3 (.slice none 0 0) zA 0) 8 oz (rawR _ rfl rfl) ?_))
 intro b2 h hs
 replace hs := (hs.rA0 (T := t_api_Order)).rA1 (cs := oc 3 (.slice none 0 0) zA 0) (oc_rep 3 zA 0)
 refine st 6 [] (k_op (lB (hs.bl d2) 2 rfl ?_))
 refine st 4 [] ?_
 obtain ⟨out9, m9, HR⟩ := bind_some H
 refine k_loop 0 (fun k' ρ h => ∃ (i : Int) (out : List api_Order) (raws : List (List Value)) (ao : Option Addr) (co : Nat) (I : Gh), read_Image.l1.m K x0 k' i out = some out9 ∧
     Fits [(1, .pointer (some ⟨b1, 0, none⟩)), (3, .slice ao raws.length co), (10, .slice a21 x0.Cells.length p22), (11, .int .i64 (x0.Cells.length : Int)), (12, .int .i64 i)] ρ ∧ out.length ≤ 1099511627776 ∧ (ImgC E x0 a21 p22 b1 ao co raws out I h ∨ ImgO E x0 a21 p22 b1 ao co raws out I h))
   (fun ρ h => ∃ (ao : Option Addr) (co no : Nat) (raws : List (List Value)) (I : Gh), Fits [(1, .pointer (some ⟨b1, 0, none⟩)), (3, .slice ao no co)] ρ ∧ raws.length = no ∧
     St E [rO (tRaw 8) .i ao co no raws, rA t_api_Order raws out9, rB b1 (scr x0 a21 p22) 24, rR t_api_Cell .b a21 p22 x0.Cells.length x0.Cells] I h) K
   ⟨0, _, [oc 3 (.slice none 0 0) zA 0], (some ⟨b2, 0, none⟩), 1, I, m9, ⟨by kernel_rfl, by kernel_rfl, by kernel_rfl, by kernel_rfl, by kernel_rfl, trivial⟩, by decide, .inl ⟨[], ⟨3, [], zA, 0, 0⟩, rfl, by decide, hs.pk (.c d1 (.c d0 (.c d0 (.c d0 .n))))⟩⟩ ?_ rfl ?_
 · clear HR m9 H hs
   rintro k' ρ h ⟨i, out, raws, ao, co, I, H, hf, hlim, hI⟩
   cases k' with
   | zero => cases H
   | succ k =>
   rw [read_Image.l1.m] at H
   refine k_fits _ hf ?_ rfl
   obtain ⟨hrl, ho1⟩ := img_len hI
   obtain ⟨j, hj⟩ : ∃ j, j = w64 ((raws.length : Int) - 1) := ⟨_, rfl⟩
   have hjv : j = (raws.length : Int) - 1 := by rw [hj]; exact w64_sm (by omega) (by omega)
   have hj0 : 0 ≤ j := by omega
   have hj1 : j < (raws.length : Int) := by omega
   refine st 2 [] (k_ite H (fun c1 H => ?_) (fun c1 H => ?_))
   · obtain ⟨c0, H⟩ := guard_pos H
     rcases hI with ⟨out0, o, rfl, hk, hs⟩ | ⟨raws0, out0, ta, tc, t, rfl, rfl, hl0, hs⟩
     · refine st 8 [true] (k_val (elemPtr a21 (i.toNat * 6)) (pI (e := 57) (ik := .i64) (hs.sR d3) c0 c1) ?_)
       obtain ⟨cs, g, q⟩ := (hs.sR d3).toSl.seg c0 c1
       obtain rfl := t_api_Cell.open_ q
       refine k_op (lG g ?_)
       refine k_op (nA hs [.bool false, .bool false, .bool false, .int .i64 0, .bool false, .int .u8 0] (.agg #[.bool false, .bool false, .bool false, .int .i64 0, .bool false, .int .u8 0]) ?_)
       intro b5 h hs
       refine k_op (sN hs 0 [.bool (at_ x0.Cells i).Field, .bool (at_ x0.Cells i).Attr.Protected, .bool (at_ x0.Cells i).Attr.Numeric, .int .i64 (at_ x0.Cells i).Attr.Show, .bool (at_ x0.Cells i).Attr.Modified, .int .u8 (at_ x0.Cells i).Char] [.bool (at_ x0.Cells i).Field, .bool (at_ x0.Cells i).Attr.Protected, .bool (at_ x0.Cells i).Attr.Numeric, .int .i64 (at_ x0.Cells i).Attr.Show, .bool (at_ x0.Cells i).Attr.Modified, .int .u8 (at_ x0.Cells i).Char] (ones_of rfl) ?_)
       intro h hs
       refine st 7 [] (k_val (elemPtr ao (j.toNat * 8)) (hj ▸ pI (e := 76) (ik := .i64) (hs.sO d1) (hj ▸ hj0) (hj ▸ hj1)) ?_)
       refine st 6 [] (k_op (lB (hs.bl d0) 0 rfl ?_))
       refine k_spl H (fun c2 H => ?_) (fun c2 H => ?_)
       · refine st 6 [true] (k_op (lN (hs.bl d0) 1 4 ?_))
         refine st 1 [] (k_op (nS (e := 76) hs .i (tRaw 8) [oc 2 (.slice none 0 0) (at_ x0.Cells i).Attr 0] (oc 2 (.slice none 0 0) (at_ x0.Cells i).Attr 0) 8 oz (rawR _ rfl rfl) ?_))
         intro b6 h hs
         obtain ⟨l, m, H⟩ := bind_some H
         obtain ⟨rfl, mr⟩ := app_len (l' := raws) (m' := [oc 2 (.slice none 0 0) (at_ x0.Cells i).Attr 0]) m hrl rfl
         have hl2 := (app_some m).1
         replace hs := (hs.f d2)
         refine k_op (aO (e := 76) (bytes := 72) hs (hs.sO d1) mr ?_)
         intro a7 c7 h hs
         replace hs := (hs.f d3).rA1 (cs := oc 2 (.slice none 0 0) (at_ x0.Cells i).Attr 0) (oc_rep 2 (at_ x0.Cells i).Attr 0)
         refine st 8 [] ?_
         exact k_endL ⟨k, Nat.lt_succ_self _, w64 (i + 1), _, raws ++ [oc 2 (.slice none 0 0) (at_ x0.Cells i).Attr 0], a7, c7, I, H, ⟨by kernel_rfl, by kernel_rfl, by kernel_rfl, by kernel_rfl, by kernel_rfl, trivial⟩, by rw [List.length_append]; exact hl2, .inl ⟨_, ⟨2, [], (at_ x0.Cells i).Attr, 0, 0⟩, rfl, (show (2 : Int) ≠ 1 by decide), hs.pk (.c d1 (.c d0 (.c d2 (.c d2 .n))))⟩⟩
       · rw [List.getLast?_concat] at H
         simp only at H
         rw [if_neg hk] at H
         obtain ⟨q1, q2⟩ := hs.g d2
         have hkc : (at_ raws j)[0]? = some (.int .i64 o.Kind) := by
           have e1 : j.toNat < raws.length := by omega
           have e2 : j.toNat < (out0 ++ [o]).length := by omega
           obtain ⟨_, _, _, e3, _⟩ := q2 j.toNat e1 e2
           have e4 : (out0 ++ [o])[j.toNat] = o := by
             have : j.toNat = out0.length := by rw [List.length_append] at hrl; simp at hrl; omega
             simp [this]
           rw [at_eq (hi := e1), e3, e4]; rfl
         refine st 6 [false] (k_val (elemPtr ao (j.toNat * 8)) (pN (hs.sO d1) hj0 hj1) ?_)
         refine k_val (elemPtr ao (j.toNat * 8 + 0)) (pF (off := 0) (hs.sO d1) hj0 hj1) ?_
         refine k_op (lC (seg_cell (f := 0) (raw_seg hs d1 hj0 hj1) hkc) ?_)
         refine k_val (.bool false) (pr_bool (b := (o.Kind == 1)) (by kernel_rfl) (beq_eq_false_iff_ne.2 hk)) ?_
         refine st 6 [false] (k_op (lB (hs.bl d0) 5 rfl ?_))
         refine k_op (nS (e := 5) hs .i (tInt .u8) [(at_ x0.Cells i).Char] [.int .u8 (at_ x0.Cells i).Char] 1 (.int .u8 0) (Reps.int (k := .u8) (l := [(at_ x0.Cells i).Char])) ?_)
         intro b6 h hs
         refine st 1 [] (k_op (nS (e := 76) hs .i (tRaw 8) [oc 1 (.slice (some ⟨b6, 0, none⟩) 1 1) zA 0] (oc 1 (.slice (some ⟨b6, 0, none⟩) 1 1) zA 0) 8 oz (rawR _ rfl rfl) ?_))
         intro b7 h hs
         obtain ⟨l, m, H⟩ := bind_some H
         obtain ⟨rfl, mr⟩ := app_len (l' := raws) (m' := [oc 1 (.slice (some ⟨b6, 0, none⟩) 1 1) zA 0]) m hrl rfl
         have hl2 := (app_some m).1
         replace hs := (hs.f d3)
         refine k_op (aO (e := 76) (bytes := 72) hs (hs.sO d1) mr ?_)
         intro a7 c7 h hs
         refine st 8 [] ?_
         exact k_endL ⟨k, Nat.lt_succ_self _, w64 (i + 1), _, raws ++ [oc 1 (.slice (some ⟨b6, 0, none⟩) 1 1) zA 0], a7, c7, I, H, ⟨by kernel_rfl, by kernel_rfl, by kernel_rfl, by kernel_rfl, by kernel_rfl, trivial⟩, by rw [List.length_append]; exact hl2, .inr ⟨raws, out0 ++ [o], (some ⟨b6, 0, none⟩), 1, [(at_ x0.Cells i).Char], rfl, rfl, hrl, hs.pk (.c d0 (.c d1 (.c d2 (.c d2 (.c d2 .n)))))⟩⟩
     · have hle : at_ (raws0 ++ [oc 1 (.slice ta (List.length t) tc) zA 0]) j = oc 1 (.slice ta (List.length t) tc) zA 0 := at_last (by rw [hjv, List.length_append]; simp)
       refine st 8 [true] (k_val (elemPtr a21 (i.toNat * 6)) (pI (e := 57) (ik := .i64) (hs.sR d4) c0 c1) ?_)
       obtain ⟨cs, g, q⟩ := (hs.sR d4).toSl.seg c0 c1
       obtain rfl := t_api_Cell.open_ q
       refine k_op (lG g ?_)
       refine k_op (nA hs [.bool false, .bool false, .bool false, .int .i64 0, .bool false, .int .u8 0] (.agg #[.bool false, .bool false, .bool false, .int .i64 0, .bool false, .int .u8 0]) ?_)
       intro b5 h hs
       refine k_op (sN hs 0 [.bool (at_ x0.Cells i).Field, .bool (at_ x0.Cells i).Attr.Protected, .bool (at_ x0.Cells i).Attr.Numeric, .int .i64 (at_ x0.Cells i).Attr.Show, .bool (at_ x0.Cells i).Attr.Modified, .int .u8 (at_ x0.Cells i).Char] [.bool (at_ x0.Cells i).Field, .bool (at_ x0.Cells i).Attr.Protected, .bool (at_ x0.Cells i).Attr.Numeric, .int .i64 (at_ x0.Cells i).Attr.Show, .bool (at_ x0.Cells i).Attr.Modified, .int .u8 (at_ x0.Cells i).Char] (ones_of rfl) ?_)
       intro h hs
       refine st 7 [] (k_val (elemPtr ao (j.toNat * 8)) (hj ▸ pI (e := 76) (ik := .i64) (hs.sO d1) (hj ▸ hj0) (hj ▸ hj1)) ?_)
       refine st 6 [] (k_op (lB (hs.bl d0) 0 rfl ?_))
       refine k_spl H (fun c2 H => ?_) (fun c2 H => ?_)
       · refine st 6 [true] (k_op (lN (hs.bl d0) 1 4 ?_))
         refine st 1 [] (k_op (nS (e := 76) hs .i (tRaw 8) [oc 2 (.slice none 0 0) (at_ x0.Cells i).Attr 0] (oc 2 (.slice none 0 0) (at_ x0.Cells i).Attr 0) 8 oz (rawR _ rfl rfl) ?_))
         intro b6 h hs
         obtain ⟨l, m, H⟩ := bind_some H
         obtain ⟨rfl, mr⟩ := app_len (l' := raws0 ++ [oc 1 (.slice ta (List.length t) tc) zA 0]) (m' := [oc 2 (.slice none 0 0) (at_ x0.Cells i).Attr 0]) m hrl rfl
         have hl2 := (app_some m).1
         obtain ⟨I, hs⟩ := (hs.f d3).fO
         have rd : Rd (tInt .u8) I h ta tc t := hs.rd d0
         replace hs := (hs.f d4).rA1 (cs := oc 1 (.slice ta (List.length t) tc) zA 0) (x := ⟨1, t, zA, 0, 0⟩) ⟨ta, tc, List.length t, rfl, rd, rfl⟩
         replace hs := (hs.f d4)
         refine k_op (aO (e := 76) (bytes := 72) hs (hs.sO d3) mr ?_)
         intro a7 c7 h hs
         replace hs := (hs.f d1).rA1 (cs := oc 2 (.slice none 0 0) (at_ x0.Cells i).Attr 0) (oc_rep 2 (at_ x0.Cells i).Attr 0)
         refine st 8 [] ?_
         exact k_endL ⟨k, Nat.lt_succ_self _, w64 (i + 1), _, _, a7, c7, I, H, ⟨by kernel_rfl, by kernel_rfl, by kernel_rfl, by kernel_rfl, by kernel_rfl, trivial⟩, by rw [List.length_append]; exact hl2, .inl ⟨_, ⟨2, [], (at_ x0.Cells i).Attr, 0, 0⟩, rfl, (show (2 : Int) ≠ 1 by decide), hs.pk (.c d1 (.c d0 (.c d3 (.c d3 .n))))⟩⟩
       · rw [List.getLast?_concat] at H
         simp only at H
         rw [if_pos trivial, List.dropLast_concat] at H
         have hkc : (at_ (raws0 ++ [oc 1 (.slice ta (List.length t) tc) zA 0]) j)[0]? = some (.int .i64 1) := by rw [hle]; rfl
         have htc : (at_ (raws0 ++ [oc 1 (.slice ta (List.length t) tc) zA 0]) j)[1]? = some (.slice ta (List.length t) tc) := by rw [hle]; rfl
         refine st 6 [false] (k_val (elemPtr ao (j.toNat * 8)) (pN (hs.sO d1) hj0 hj1) ?_)
         refine k_val (elemPtr ao (j.toNat * 8 + 0)) (pF (off := 0) (hs.sO d1) hj0 hj1) ?_
         refine k_op (lC (seg_cell (f := 0) (raw_seg hs d1 hj0 hj1) hkc) ?_)
         refine st 4 [true] ?_
         obtain ⟨hs0, bk0⟩ := (hs.f d2).call tk1 (.c (qO d1) (.c (qL d0) .n))
         have hs := hs0
         refine k_regD hs0 9 ?_
         refine aRun [0, 1] 10 hs.keep ?_
         refine aP 2 (elemPtr ao (j.toNat * 8)) rfl (pN (hs.sR d1) hj0 hj1) hs.keep ?_
         refine aP 3 (elemPtr ao (j.toNat * 8 + 1)) rfl (pF (off := 1) (hs.sR d1) hj0 hj1) hs.keep ?_
         refine aL 4 rfl hs.keep (seg_cell (f := 1) (raw_segR hs0 d1 hj0 hj1) htc) (nmR hs0 d1 hj0 hj1) ?_
         refine aRun [5] 6 hs.keep ?_
         refine aL 6 rfl hs.keep (ll hs0 d2 (n := 5) rfl) (nmL hs0 d2) ?_
         refine aO1 7 rfl (nS (e := 5) hs .i (tInt .u8) [(at_ x0.Cells i).Char] [.int .u8 (at_ x0.Cells i).Char] 1 (.int .u8 0) (Reps.int (k := .u8) (l := [(at_ x0.Cells i).Char])) ?_)
         intro b6 h hs
         refine ⟨hs.keep, ?_⟩
         obtain ⟨t2, m, H⟩ := bind_some H
         replace hs := (hs.f d1)
         refine aO1 8 rfl (aO (e := 5) (bytes := 1) hs (hs.sO d1) m ?_)
         intro a7 c7 h hs
         refine ⟨hs.keep, ?_⟩
         replace hs := hs.pk (.c d0 .n)
         replace hs := bk0 hs ct1 rfl
         refine aOL 9 rfl (owp_pure (elemPtr ao (j.toNat * 8)) (pN (hs.sO d2) hj0 hj1) ?_)
         refine aOL 10 rfl (owp_pure (elemPtr ao (j.toNat * 8 + 1)) (pF (off := 1) (hs.sO d2) hj0 hj1) ?_)
         have hsg := raw_seg hs d2 hj0 hj1
         rw [hle] at hsg
         refine aOL 11 rfl (sE (hs.f d2) 1 [.slice a7 t2.length c7] (oc 1 (.slice a7 t2.length c7) zA 0) hj0 hj1 hsg (ones_of rfl) ⟨rfl, rfl, ones_of rfl⟩ ?_)
         intro h hs
         rw [set_last (by rw [hjv, List.length_append]; simp)] at hs
         refine aEnd ?_
         refine st 6 [] ?_
         have hn : (raws0 ++ [oc 1 (.slice ta (List.length t) tc) zA 0]).length = (raws0 ++ [oc 1 (.slice a7 t2.length c7) zA 0]).length := by simp
         rw [hn] at hs
         exact k_endL ⟨k, Nat.lt_succ_self _, w64 (i + 1), _, raws0 ++ [oc 1 (.slice a7 t2.length c7) zA 0], ao, co, I, H, ⟨by kernel_rfl, hn ▸ by kernel_rfl, by kernel_rfl, by kernel_rfl, by kernel_rfl, trivial⟩, by rw [List.length_append] at hlim ⊢; simpa using hlim, .inr ⟨raws0, out0, a7, c7, t2, rfl, rfl, hl0, hs.pk (.c d0 (.c d0 (.c d1 (.c d1 (.c d1 .n)))))⟩⟩
   · obtain rfl := Option.some.inj H
     obtain ⟨I, hs⟩ := img_close hI
     refine st 3 [false] ?_
     refine k_out rfl ?_
     exact xE ⟨ao, co, raws.length, raws, I, ⟨by kernel_rfl, by kernel_rfl, trivial⟩, rfl, hs⟩
 · rintro ρ h ⟨ao, co, no, raws, I, hf, hno, hs⟩
   refine k_fits _ hf ?_ rfl
   have H := HR
   subst hno
   have hrl : raws.length = out9.length := (hs.g d1).1
   refine st 4 [] (k_op (lB (hs.bl d2) 3 rfl ?_))
   refine k_iteN H (fun c1 H => ?_) (fun c1 H => ?_)
   · refine st 7 [false] (k_op (nS (e := 76) hs .i (tRaw 8) [oc 4 (.slice none 0 0) zA 0] (oc 4 (.slice none 0 0) zA 0) 8 oz (rawR _ rfl rfl) ?_))
     intro b6 h hs
     obtain ⟨rfl, mr⟩ := app_len (l' := raws) (m' := [oc 4 (.slice none 0 0) zA 0]) H hrl rfl
     replace hs := (hs.f d1)
     refine k_op (aO (e := 76) (bytes := 72) hs (hs.sO d1) mr ?_)
     intro a7 c7 h hs
     replace hs := (hs.f d2).rA1 (cs := oc 4 (.slice none 0 0) zA 0) (oc_rep 4 zA 0)
     refine st 2 [] ?_
     refine k_retQ ?_
     replace hs := St.unraw (T := t_api_Order) (hs.f d1)
     exact ⟨_, by kernel_rfl, I, _, ⟨a7, c7, _, rfl, rfl⟩, hs.pk (.c d0 .n)⟩
   · refine st 5 [true] (k_op (lB (hs.bl d2) 3 rfl ?_))
     refine st 1 [] (k_op (nS (e := 76) hs .i (tRaw 8) [oc 3 (.slice none 0 0) zA x0.Cursor] (oc 3 (.slice none 0 0) zA x0.Cursor) 8 oz (rawR _ rfl rfl) ?_))
     intro b6 h hs
     obtain ⟨l, m, H⟩ := bind_some H
     obtain ⟨rfl, mr⟩ := app_len (l' := raws) (m' := [oc 3 (.slice none 0 0) zA x0.Cursor]) m hrl rfl
     replace hs := (hs.f d1)
     refine k_op (aO (e := 76) (bytes := 72) hs (hs.sO d1) mr ?_)
     intro a7 c7 h hs
     replace hs := (hs.f d2).rA1 (cs := oc 3 (.slice none 0 0) zA x0.Cursor) (oc_rep 3 zA x0.Cursor)
     have hrl2 := (hs.g d0).1
     refine st 6 [] (k_op (nS (e := 76) hs .i (tRaw 8) [oc 4 (.slice none 0 0) zA 0] (oc 4 (.slice none 0 0) zA 0) 8 oz (rawR _ rfl rfl) ?_))
     intro b8 h hs
     obtain ⟨rfl, mr2⟩ := app_len (l' := raws ++ [oc 3 (.slice none 0 0) zA x0.Cursor]) (m' := [oc 4 (.slice none 0 0) zA 0]) H hrl2 rfl
     replace hs := (hs.f d2)
     refine k_op (aO (e := 76) (bytes := 72) hs (hs.sO d1) mr2 ?_)
     intro a9 c9 h hs
     replace hs := (hs.f d2).rA1 (cs := oc 4 (.slice none 0 0) zA 0) (oc_rep 4 zA 0)
     refine st 2 [] ?_
     refine k_retQ ?_
     replace hs := St.unraw (T := t_api_Order) (hs.f d1)
     exact ⟨_, by kernel_rfl, I, _, ⟨a9, c9, _, rfl, rfl⟩, hs.pk (.c d0 .n)⟩

/-! shutter/api.Code -/
def api_Code.m (x0 : GoErr) : Option Int := some (codeOf x0)
theorem api_Code.calls {B I : Gh} {h : Heap} {x0 : GoErr} {v1 : Value} {r : Int} (H : api_Code.m x0 = some r) : Fc Tryz.prog 12 #[v1] [rE .b v1 x0, rG] B I h (fun v L => v = .int .i64 r ∧ L = []) :=
  Code_fc (Option.some.inj H)

end Go.Proofs.YtfbcjibdgicaoaaGreatDoor.Sx
