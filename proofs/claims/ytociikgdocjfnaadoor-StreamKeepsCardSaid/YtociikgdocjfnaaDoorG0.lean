/- Printed walks, part 0: each function's model, and that the code comes to it. -/
import Derived.Test.YtociikgdocjfnaaDoorProg
import Derived.Test.YtociikgdocjfnaaDoorSx9
namespace Go.Proofs.YtociikgdocjfnaaDoor.Sx
open Go

structure bytes_Cursor where
  b' : (List Int)
  at' : Int
  err' : GoErr
  deriving DecidableEq, Inhabited

def t_bytes_Cursor : Ty bytes_Cursor where
  size := 3
  rep I h cs x := ∃ a_0, ∃ c_0, ∃ v_2, cs = [.slice a_0 x.b'.length c_0, .int .i64 x.at', v_2] ∧ Rd (tInt .u8) I h a_0 c_0 x.b' ∧ ErrV I h x.err' v_2
  len := by rintro _ _ _ _ ⟨_, _, _, rfl, _, _⟩; rfl
  one := by
    rintro _ _ _ _ ⟨e0, e1, e2, rfl, q0, q1⟩ v hv
    simp only [List.mem_cons, List.not_mem_nil, or_false] at hv
    rcases hv with rfl | rfl | rfl
    · exact rfl
    · exact rfl
    · exact q1.one
  up := by rintro _ _ _ _ _ _ u ⟨e0, e1, e2, rfl, q0, q1⟩; exact ⟨e0, e1, e2, rfl, q0.up u, q1.up u⟩
theorem t_bytes_Cursor.open_ {I : Gh} {h : Heap} {cs : List Value} {x : bytes_Cursor} (r : t_bytes_Cursor.rep I h cs x) : ∃ a_0, ∃ c_0, ∃ v_2, cs = [.slice a_0 x.b'.length c_0, .int .i64 x.at', v_2] ∧ Rd (tInt .u8) I h a_0 c_0 x.b' ∧ ErrV I h x.err' v_2 := r

structure api_Attr where
  Protected : Bool
  Numeric : Bool
  Show : Int
  Modified : Bool
  deriving DecidableEq, Inhabited

def t_api_Attr : Ty api_Attr where
  size := 4
  rep I h cs x := cs = [.bool x.Protected, .bool x.Numeric, .int .i64 x.Show, .bool x.Modified]
  len := by rintro _ _ _ _ rfl; rfl
  one := by
    rintro _ _ _ _ rfl v hv
    simp only [List.mem_cons, List.not_mem_nil, or_false] at hv
    rcases hv with rfl | rfl | rfl | rfl
    · exact rfl
    · exact rfl
    · exact rfl
    · exact rfl
  up := by intro _ _ _ _ _ _ _ e; exact e
theorem t_api_Attr.open_ {I : Gh} {h : Heap} {cs : List Value} {x : api_Attr} (r : t_api_Attr.rep I h cs x) : cs = [.bool x.Protected, .bool x.Numeric, .int .i64 x.Show, .bool x.Modified] := r

structure api_Order where
  Kind : Int
  Text : (List Int)
  Attr : api_Attr
  Addr : Int
  Char : Int
  deriving DecidableEq, Inhabited

def t_api_Order : Ty api_Order where
  size := 8
  rep I h cs x := ∃ a_1, ∃ c_1, cs = [.int .i64 x.Kind, .slice a_1 x.Text.length c_1, .bool x.Attr.Protected, .bool x.Attr.Numeric, .int .i64 x.Attr.Show, .bool x.Attr.Modified, .int .i64 x.Addr, .int .u8 x.Char] ∧ Rd (tInt .u8) I h a_1 c_1 x.Text
  len := by rintro _ _ _ _ ⟨_, _, rfl, _⟩; rfl
  one := by
    rintro _ _ _ _ ⟨e0, e1, rfl, q0⟩ v hv
    simp only [List.mem_cons, List.not_mem_nil, or_false] at hv
    rcases hv with rfl | rfl | rfl | rfl | rfl | rfl | rfl | rfl
    · exact rfl
    · exact rfl
    · exact rfl
    · exact rfl
    · exact rfl
    · exact rfl
    · exact rfl
    · exact rfl
  up := by rintro _ _ _ _ _ _ u ⟨e0, e1, rfl, q0⟩; exact ⟨e0, e1, rfl, q0.up u⟩
theorem t_api_Order.open_ {I : Gh} {h : Heap} {cs : List Value} {x : api_Order} (r : t_api_Order.rep I h cs x) : ∃ a_1, ∃ c_1, cs = [.int .i64 x.Kind, .slice a_1 x.Text.length c_1, .bool x.Attr.Protected, .bool x.Attr.Numeric, .int .i64 x.Attr.Show, .bool x.Attr.Modified, .int .i64 x.Addr, .int .u8 x.Char] ∧ Rd (tInt .u8) I h a_1 c_1 x.Text := r

structure Anon_is_n where
  is' : Bool
  n' : Int
  deriving DecidableEq, Inhabited

def t_Anon_is_n : Ty Anon_is_n where
  size := 2
  rep I h cs x := cs = [.bool x.is', .int .i64 x.n']
  len := by rintro _ _ _ _ rfl; rfl
  one := by
    rintro _ _ _ _ rfl v hv
    simp only [List.mem_cons, List.not_mem_nil, or_false] at hv
    rcases hv with rfl | rfl
    · exact rfl
    · exact rfl
  up := by intro _ _ _ _ _ _ _ e; exact e
theorem t_Anon_is_n.open_ {I : Gh} {h : Heap} {cs : List Value} {x : Anon_is_n} (r : t_Anon_is_n.rep I h cs x) : cs = [.bool x.is', .int .i64 x.n'] := r

structure api_Wcc where
  Alarm : Bool
  Unlock : Bool
  Reset : Bool
  deriving DecidableEq, Inhabited

def t_api_Wcc : Ty api_Wcc where
  size := 3
  rep I h cs x := cs = [.bool x.Alarm, .bool x.Unlock, .bool x.Reset]
  len := by rintro _ _ _ _ rfl; rfl
  one := by
    rintro _ _ _ _ rfl v hv
    simp only [List.mem_cons, List.not_mem_nil, or_false] at hv
    rcases hv with rfl | rfl | rfl
    · exact rfl
    · exact rfl
    · exact rfl
  up := by intro _ _ _ _ _ _ _ e; exact e
theorem t_api_Wcc.open_ {I : Gh} {h : Heap} {cs : List Value} {x : api_Wcc} (r : t_api_Wcc.rep I h cs x) : cs = [.bool x.Alarm, .bool x.Unlock, .bool x.Reset] := r

structure api_Out where
  Cmd : Int
  Wcc : api_Wcc
  Orders : (List api_Order)
  deriving DecidableEq, Inhabited

def t_api_Out : Ty api_Out where
  size := 5
  rep I h cs x := ∃ a_2, ∃ c_2, cs = [.int .i64 x.Cmd, .bool x.Wcc.Alarm, .bool x.Wcc.Unlock, .bool x.Wcc.Reset, .slice a_2 x.Orders.length c_2] ∧ Rd t_api_Order I h a_2 c_2 x.Orders
  len := by rintro _ _ _ _ ⟨_, _, rfl, _⟩; rfl
  one := by
    rintro _ _ _ _ ⟨e0, e1, rfl, q0⟩ v hv
    simp only [List.mem_cons, List.not_mem_nil, or_false] at hv
    rcases hv with rfl | rfl | rfl | rfl | rfl
    · exact rfl
    · exact rfl
    · exact rfl
    · exact rfl
    · exact rfl
  up := by rintro _ _ _ _ _ _ u ⟨e0, e1, rfl, q0⟩; exact ⟨e0, e1, rfl, q0.up u⟩
theorem t_api_Out.open_ {I : Gh} {h : Heap} {cs : List Value} {x : api_Out} (r : t_api_Out.rep I h cs x) : ∃ a_2, ∃ c_2, cs = [.int .i64 x.Cmd, .bool x.Wcc.Alarm, .bool x.Wcc.Unlock, .bool x.Wcc.Reset, .slice a_2 x.Orders.length c_2] ∧ Rd t_api_Order I h a_2 c_2 x.Orders := r

/-! (*shutter/bytes.Cursor).Left -/
def bytes_Cursor_Left.m (x0 : bytes_Cursor) : Option (Int × bytes_Cursor) :=
  (some ((w64 ((x0.b'.length : Int) - x0.at')), x0))

set_option maxRecDepth 100000 in
theorem bytes_Cursor_Left.calls {I : Gh} {h : Heap} {b0 : Nat} {x0 : bytes_Cursor} {a1 : Option Addr} {c2 : Nat} {v5 : Value} (hB : Bd I h) (o8 : OwnB I h b0 [.slice a1 x0.b'.length c2, .int .i64 x0.at', v5] 88) (r4 : Rd (tInt .u8) I h a1 c2 x0.b') (q7 : ErrV I h x0.err' v5) {r : (Int × bytes_Cursor)}
    (H : bytes_Cursor_Left.m x0 = some r) :
    Ret Tryd.prog 38 #[.pointer (some ⟨b0, 0, none⟩)] h (fun v h' => ∃ (I' : Gh) (a9 : Option Addr) (c10 : Nat) (v13 : Value), .int .i64 r.1 = v ∧ Pst (One b0) I h I' h' ∧ Rd (tInt .u8) I' h' a9 c10 r.2.b' ∧ ErrV I' h' r.2.err' v13 ∧ OwnB I' h' b0 [.slice a9 r.2.b'.length c10, .int .i64 r.2.at', v13] 88) := by
  unfold bytes_Cursor_Left.m at H
  refine ret_of (args := [.pointer (some ⟨b0, 0, none⟩)]) (rs := [.tmp 2]) (N := 13) Tryd.func38 rfl rfl rfl (Nat.le_of_ble_eq_true rfl) ?_
  have pt0 : Pst (One b0) I h I h := Pst.refl hB
  have nw_b0 : (One b0) b0 ∨ h.size ≤ b0 := .inl rfl
  refine cwp_seq ?_
  refine cwp_region ?_
  refine lwp_run 1 (by kernel_rfl) ?_
  refine lwp_nil ?_
  refine cwp_seq ?_
  refine cwp_regionD (Keep No h) 11 (by kernel_rfl) ?_
  refine awp_run (fuel := 8) [0, 1, 2] Keep.refl (by kernel_rfl) ?_
  refine awp_load 3 rfl (by kernel_rfl) (by kernel_rfl) (by kernel_rfl) (by kernel_rfl) Keep.refl (o8.cell (off := 0) rfl) (fun _ _ x => x.elim) ?_
  refine awp_run (fuel := 3) [4, 5, 6, 7] Keep.refl (by kernel_rfl) ?_
  refine awp_load 8 rfl (by kernel_rfl) (by kernel_rfl) (by kernel_rfl) (by kernel_rfl) Keep.refl (o8.cell (off := 1) rfl) (fun _ _ x => x.elim) ?_
  refine awp_run (fuel := 0) [9, 10] Keep.refl (by kernel_rfl) ?_
  refine awp_nil (by kernel_rfl) ?_ 0
  refine cwp_ret ?_
  obtain rfl := Option.some.inj H
  show Exists _
  exact ⟨.int .i64 (w64 ((x0.b'.length : Int) - x0.at')), by kernel_rfl, I, a1, c2, (v5), rfl, pt0, r4, q7, o8⟩

/-! slices.Equal[[]byte,byte] -/
def slices_Equal_bytes.l1.m (K : Nat) (x0 : (List Int)) (x1 : (List Int)) : Nat → Int → Option (Bool ⊕ (Unit))
  | 0, _ => none
  | k + 1, x13 => (letJ (α := Bool → Option (Bool ⊕ (Unit))) (fun (x25 : Bool) => (bif x25 then (if 0 ≤ x13 then (if x13 < (x0.length : Int) then (if x13 < (x1.length : Int) then (if (at_ x0 x13) = (at_ x1 x13) then (slices_Equal_bytes.l1.m K x0 x1 k (w64 (x13 + 1))) else (some (Sum.inl false))) else none) else none) else none) else (some (Sum.inr ())))) fun (j26 : Bool → Option (Bool ⊕ (Unit))) => (if x13 < (x0.length : Int) then (j26 true) else (j26 false)))
def slices_Equal_bytes.m (K : Nat) (x0 : (List Int)) (x1 : (List Int)) : Option Bool :=
  (if (x0.length : Int) = (x1.length : Int) then ((slices_Equal_bytes.l1.m K x0 x1 K 0).bind fun s15 => match s15 with | .inl q => (some q) | .inr _ => (some true)) else (some false))

set_option maxRecDepth 100000 in
theorem slices_Equal_bytes.calls {I : Gh} {h : Heap} {K : Nat} {x0 : List Int} {a1 : Option Addr} {c2 : Nat} {x1 : List Int} {a5 : Option Addr} {c6 : Nat} (_hB : Bd I h) (r4 : Rd (tInt .u8) I h a1 c2 x0) (r8 : Rd (tInt .u8) I h a5 c6 x1) {r : Bool}
    (H : slices_Equal_bytes.m K x0 x1 = some r) :
    Ret Tryd.prog 72 #[.slice a1 x0.length c2, .slice a5 x1.length c6] h (fun v h' => ∃ _ : Unit, .bool r = v ∧ h = h') := by
  unfold slices_Equal_bytes.m at H
  refine ret_of (args := [.slice a1 x0.length c2, .slice a5 x1.length c6]) (rs := [.tmp 4]) (N := 26) Tryd.func72 rfl rfl rfl (Nat.le_of_ble_eq_true rfl) ?_
  refine cwp_seq ?_
  refine cwp_region ?_
  refine lwp_run 1 (by kernel_rfl) ?_
  refine lwp_nil ?_
  refine cwp_seq ?_
  refine cwp_seq ?_
  refine cwp_region ?_
  refine lwp_run 4 (by kernel_rfl) ?_
  by_cases c9 : (x0.length : Int) = (x1.length : Int)
  · rw [if_pos c9] at H
    refine lwp_op (by kernel_rfl) (owp_pure ((.bool false)) (pr_bool (by kernel_rfl) (neF c9)) ?_)
    refine lwp_nil ?_
    refine cwp_false (by kernel_rfl) ?_
    refine cwp_skip ?_
    refine cwp_seq ?_
    refine cwp_seq ?_
    refine cwp_region ?_
    refine lwp_run 3 (by kernel_rfl) ?_
    refine lwp_nil ?_
    refine cwp_block ?_
    obtain ⟨s15, m19, HR20⟩ := bind_some H
    refine cwp_loopE 0 (fun ρ' h16 => ∃ (_ : Unit), Sum.inr () = s15 ∧ Fits [] ρ' ∧ h = h16) ?_ ?_
    · refine cwp_loop (fun k' ρ' h10 => ∃ (x13 : Int) (_ : Unit), slices_Equal_bytes.l1.m K x0 x1 k' x13 = some s15 ∧ Fits [(0, .slice a1 x0.length c2), (1, .slice a5 x1.length c6), (12, .int .i64 (x0.length : Int)), (13, .int .i64 x13)] ρ' ∧ h = h10) K ⟨0, (), m19, ⟨by kernel_rfl, by kernel_rfl, by kernel_rfl, by kernel_rfl, trivial⟩, rfl⟩ ?_
      clear m19
      rintro k' ρ' h10 ⟨x13, _, H, hf, rfl⟩
      cases k' with
      | zero => cases H
      | succ k =>
        rw [slices_Equal_bytes.l1.m] at H
        refine cwp_fits _ hf ?_
        obtain ⟨j26, e39, H⟩ := letJ_some H
        refine cwp_join (fun ρ' h22 => ∃ (x25 : Bool) (_ : Unit), j26 x25 = some s15 ∧ Fits [(0, .slice a1 x0.length c2), (1, .slice a5 x1.length c6), (12, .int .i64 (x0.length : Int)), (13, .int .i64 x13), (14, .bool x25)] ρ' ∧ h = h22) ?_ ?_
        · refine cwp_region ?_
          by_cases c21 : x13 < (x0.length : Int)
          · rw [if_pos c21] at H
            refine lwp_op (by kernel_rfl) (owp_pure ((.bool true)) (pr_bool (by kernel_rfl) (decide_eq_true c21)) ?_)
            refine lwp_nil ?_
            exact ⟨true, (), H, ⟨by kernel_rfl, by kernel_rfl, by kernel_rfl, by kernel_rfl, by kernel_rfl, trivial⟩, rfl⟩
          · rw [if_neg c21] at H
            refine lwp_op (by kernel_rfl) (owp_pure ((.bool false)) (pr_bool (by kernel_rfl) (decide_eq_false c21)) ?_)
            refine lwp_nil ?_
            exact ⟨false, (), H, ⟨by kernel_rfl, by kernel_rfl, by kernel_rfl, by kernel_rfl, by kernel_rfl, trivial⟩, rfl⟩
        · clear H
          rintro ρ' h22 ⟨x25, _, H, hf, rfl⟩
          refine cwp_fits _ hf ?_
          subst e39
          try dsimp only at H
          refine cwp_seq ?_
          cases x25
          · rw [cond_false] at H
            refine cwp_false (by kernel_rfl) ?_
            refine cwp_exit ?_
            obtain rfl := Option.some.inj H
            show Exists _
            exact ⟨(), rfl, trivial, rfl⟩
          · rw [cond_true] at H
            refine cwp_true (by kernel_rfl) ?_
            refine cwp_skip ?_
            refine cwp_seq ?_
            refine cwp_block ?_
            refine cwp_seq ?_
            refine cwp_region ?_
            refine lwp_run 2 (by kernel_rfl) ?_
            refine lwp_nil ?_
            refine cwp_seq ?_
            refine cwp_regionD (Keep No h) 9 (by kernel_rfl) ?_
            obtain ⟨c27, H⟩ := guard_pos H
            obtain ⟨c28, H⟩ := guard_pos H
            refine awp_run (fuel := 7) [0, 1] Keep.refl (by kernel_rfl) ?_
            have hs29 := (r4.toSl).isSome c27 c28
            refine awp_pure 2 (elemPtr a1 (x13.toNat * 1)) rfl (by kernel_rfl) (by kernel_rfl) (pr_indexElem (e := 5) (r4.toSl) (k := .i64) (by kernel_rfl) (by kernel_rfl) (by kernel_rfl) (by kernel_rfl) c27 c28) Keep.refl ?_
            obtain ⟨cs30, hs31, rp32⟩ := (r4.toSl).seg c27 c28
            obtain rfl := rep_int rp32
            refine awp_load 3 rfl (by kernel_rfl) (by kernel_rfl) (by kernel_rfl) (by kernel_rfl) Keep.refl (seg_cell (f := 0) hs31 rfl) (fun _ _ x => x.elim) ?_
            obtain ⟨c33, H⟩ := guard_pos H
            refine awp_run (fuel := 3) [4, 5] Keep.refl (by kernel_rfl) ?_
            have hs34 := (r8.toSl).isSome c27 c33
            refine awp_pure 6 (elemPtr a5 (x13.toNat * 1)) rfl (by kernel_rfl) (by kernel_rfl) (pr_indexElem (e := 5) (r8.toSl) (k := .i64) (by kernel_rfl) (by kernel_rfl) (by kernel_rfl) (by kernel_rfl) c27 c33) Keep.refl ?_
            obtain ⟨cs35, hs36, rp37⟩ := (r8.toSl).seg c27 c33
            obtain rfl := rep_int rp37
            refine awp_load 7 rfl (by kernel_rfl) (by kernel_rfl) (by kernel_rfl) (by kernel_rfl) Keep.refl (seg_cell (f := 0) hs36 rfl) (fun _ _ x => x.elim) ?_
            by_cases c38 : (at_ x0 x13) = (at_ x1 x13)
            · rw [if_pos c38] at H
              refine awp_pure 8 ((.bool false)) rfl (by kernel_rfl) (by kernel_rfl) (pr_bool (by kernel_rfl) (neF c38)) Keep.refl ?_
              refine awp_nil (by kernel_rfl) ?_ 0
              refine cwp_false (by kernel_rfl) ?_
              refine cwp_skip ?_
              refine cwp_region ?_
              refine lwp_run 2 (by kernel_rfl) ?_
              refine lwp_nil ?_
              show Exists _
              exact ⟨k, Nat.lt_succ_self _, (w64 (x13 + 1)), (), H, ⟨by kernel_rfl, by kernel_rfl, by kernel_rfl, by kernel_rfl, trivial⟩, rfl⟩
            · rw [if_neg c38] at H
              refine awp_pure 8 ((.bool true)) rfl (by kernel_rfl) (by kernel_rfl) (pr_bool (by kernel_rfl) (neT c38)) Keep.refl ?_
              refine awp_nil (by kernel_rfl) ?_ 0
              refine cwp_true (by kernel_rfl) ?_
              refine cwp_seq ?_
              refine cwp_region ?_
              refine lwp_run 1 (by kernel_rfl) ?_
              refine lwp_nil ?_
              refine cwp_ret ?_
              obtain rfl := Option.some.inj H
              obtain rfl := Option.some.inj HR20
              show Exists _
              exact ⟨.bool false, by kernel_rfl, (), rfl, rfl⟩
    · rintro ρ' h16 ⟨_, rfl, hf, rfl⟩
      have H := HR20
      try dsimp only at H
      refine cwp_fits _ hf ?_
      refine cwp_seq ?_
      refine cwp_region ?_
      refine lwp_run 1 (by kernel_rfl) ?_
      refine lwp_nil ?_
      refine cwp_ret ?_
      obtain rfl := Option.some.inj H
      show Exists _
      exact ⟨.bool true, by kernel_rfl, (), rfl, rfl⟩
  · rw [if_neg c9] at H
    refine lwp_op (by kernel_rfl) (owp_pure ((.bool true)) (pr_bool (by kernel_rfl) (neT c9)) ?_)
    refine lwp_nil ?_
    refine cwp_true (by kernel_rfl) ?_
    refine cwp_seq ?_
    refine cwp_region ?_
    refine lwp_run 1 (by kernel_rfl) ?_
    refine lwp_nil ?_
    refine cwp_ret ?_
    obtain rfl := Option.some.inj H
    show Exists _
    exact ⟨.bool false, by kernel_rfl, (), rfl, rfl⟩

/-! shutter/order.Same -/
def order_Same.m (K : Nat) (x0 : api_Order) (x1 : api_Order) : Option Bool :=
  (if x0.Kind = x1.Kind then ((slices_Equal_bytes.m K x0.Text x1.Text).bind fun t30 => bif t30 then (bif ((x0.Attr.Protected == x1.Attr.Protected) && ((x0.Attr.Numeric == x1.Attr.Numeric) && ((x0.Attr.Show == x1.Attr.Show) && ((x0.Attr.Modified == x1.Attr.Modified) && true)))) then (if x0.Addr = x1.Addr then (some (x0.Char == x1.Char)) else (some false)) else (some false)) else (some false)) else (some false))

set_option maxRecDepth 100000 in
theorem order_Same.calls {I : Gh} {h : Heap} {K : Nat} {x0 : api_Order} {a1 : Option Addr} {c2 : Nat} {x1 : api_Order} {a5 : Option Addr} {c6 : Nat} (hB : Bd I h) (r4 : Rd (tInt .u8) I h a1 c2 x0.Text) (r8 : Rd (tInt .u8) I h a5 c6 x1.Text) {r : Bool}
    (H : order_Same.m K x0 x1 = some r) :
    Ret Tryd.prog 39 #[.agg #[.int .i64 x0.Kind, .slice a1 x0.Text.length c2, .bool x0.Attr.Protected, .bool x0.Attr.Numeric, .int .i64 x0.Attr.Show, .bool x0.Attr.Modified, .int .i64 x0.Addr, .int .u8 x0.Char], .agg #[.int .i64 x1.Kind, .slice a5 x1.Text.length c6, .bool x1.Attr.Protected, .bool x1.Attr.Numeric, .int .i64 x1.Attr.Show, .bool x1.Attr.Modified, .int .i64 x1.Addr, .int .u8 x1.Char]] h (fun v h' => ∃ (I' : Gh), .bool r = v ∧ Pst No I h I' h') := by
  unfold order_Same.m at H
  refine ret_of (args := [.agg #[.int .i64 x0.Kind, .slice a1 x0.Text.length c2, .bool x0.Attr.Protected, .bool x0.Attr.Numeric, .int .i64 x0.Attr.Show, .bool x0.Attr.Modified, .int .i64 x0.Addr, .int .u8 x0.Char], .agg #[.int .i64 x1.Kind, .slice a5 x1.Text.length c6, .bool x1.Attr.Protected, .bool x1.Attr.Numeric, .int .i64 x1.Attr.Show, .bool x1.Attr.Modified, .int .i64 x1.Addr, .int .u8 x1.Char]]) (rs := [.tmp 4]) (N := 38) Tryd.func39 rfl rfl rfl (Nat.le_of_ble_eq_true rfl) ?_
  have pt0 : Pst No I h I h := Pst.refl hB
  refine cwp_seq ?_
  refine cwp_region ?_
  refine lwp_op (by kernel_rfl) (owp_box [.int .i64 x0.Kind, .slice a1 x0.Text.length c2, .bool x0.Attr.Protected, .bool x0.Attr.Numeric, .int .i64 x0.Attr.Show, .bool x0.Attr.Modified, .int .i64 x0.Addr, .int .u8 x0.Char] hB (by kernel_rfl) ?_)
  intro b9 h10 hc11 p12 o13
  have pt14 := pt0.no p12
  have fr15 : No b9 ∨ h.size ≤ b9 := .inr (Nat.le_trans pt0.size hc11)
  refine lwp_op (by kernel_rfl) (owp_box [.int .i64 x1.Kind, .slice a5 x1.Text.length c6, .bool x1.Attr.Protected, .bool x1.Attr.Numeric, .int .i64 x1.Attr.Show, .bool x1.Attr.Modified, .int .i64 x1.Addr, .int .u8 x1.Char] p12.bd (by kernel_rfl) ?_)
  intro b16 h17 hc18 p19 o20
  have pt21 := pt14.no p19
  have fr22 : No b16 ∨ h.size ≤ b16 := .inr (Nat.le_trans pt14.size hc18)
  have d23 := ne_new o13.lt hc18
  refine lwp_run 1 (by kernel_rfl) ?_
  refine lwp_nil ?_
  refine cwp_seq ?_
  refine cwp_region ?_
  refine lwp_run 1 (by kernel_rfl) ?_
  have f24 := o13.post p19 (fun x => x.elim)
  refine lwp_op (by kernel_rfl) (owp_load (by kernel_rfl) (by kernel_rfl) (f24.cell (off := 0) rfl) ?_)
  refine lwp_run 1 (by kernel_rfl) ?_
  refine lwp_op (by kernel_rfl) (owp_load (by kernel_rfl) (by kernel_rfl) (o20.cell (off := 0) rfl) ?_)
  by_cases c25 : x0.Kind = x1.Kind
  · rw [if_pos c25] at H
    refine lwp_op (by kernel_rfl) (owp_pure ((.bool true)) (pr_bool (by kernel_rfl) (eqT c25)) ?_)
    refine lwp_run 2 (by kernel_rfl) ?_
    refine lwp_op (by kernel_rfl) (owp_load (by kernel_rfl) (by kernel_rfl) (f24.cell (off := 1) rfl) ?_)
    refine lwp_run 1 (by kernel_rfl) ?_
    refine lwp_op (by kernel_rfl) (owp_load (by kernel_rfl) (by kernel_rfl) (o20.cell (off := 1) rfl) ?_)
    have f26 := r4.up (p12.up hB (fun _ x => x.elim))
    have f27 := f26.up (p19.up p12.bd (fun _ x => x.elim))
    have f28 := r8.up (p12.up hB (fun _ x => x.elim))
    have f29 := f28.up (p19.up p12.bd (fun _ x => x.elim))
    obtain ⟨t30, m31, H⟩ := bind_some H
    refine lwp_op (by kernel_rfl) (owp_callF (by kernel_rfl) (slices_Equal_bytes.calls (I := I) p19.bd f27 f29 m31) ?_)
    rintro v32 h33 ⟨_, rfl, rfl⟩
    cases t30
    · rw [cond_false] at H
      refine lwp_run 23 (by kernel_rfl) ?_
      refine lwp_nil ?_
      refine cwp_ret ?_
      obtain rfl := Option.some.inj H
      show Exists _
      exact ⟨.bool false, by kernel_rfl, I, rfl, pt21⟩
    · rw [cond_true] at H
      refine lwp_run 3 (by kernel_rfl) ?_
      refine lwp_op (by kernel_rfl) (owp_loadN (by kernel_rfl) (by kernel_rfl) (by kernel_rfl) (f24.seg_ 2 4 (Nat.le_of_ble_eq_true rfl)) ?_)
      refine lwp_run 1 (by kernel_rfl) ?_
      refine lwp_op (by kernel_rfl) (owp_loadN (by kernel_rfl) (by kernel_rfl) (by kernel_rfl) (o20.seg_ 2 4 (Nat.le_of_ble_eq_true rfl)) ?_)
      rcases bool_or ((x0.Attr.Protected == x1.Attr.Protected) && ((x0.Attr.Numeric == x1.Attr.Numeric) && ((x0.Attr.Show == x1.Attr.Show) && ((x0.Attr.Modified == x1.Attr.Modified) && true)))) with c36 | c36
      · replace H := bif_f c36 H
        refine lwp_op (by kernel_rfl) (owp_run (.bool false) (run_bool (run_eqAgg (xs := #[.bool x0.Attr.Protected, .bool x0.Attr.Numeric, .int .i64 x0.Attr.Show, .bool x0.Attr.Modified]) (ys := #[.bool x1.Attr.Protected, .bool x1.Attr.Numeric, .int .i64 x1.Attr.Show, .bool x1.Attr.Modified]) (by kernel_rfl) (by kernel_rfl) (by kernel_rfl) (eqB_run (b := ((x0.Attr.Protected == x1.Attr.Protected) && ((x0.Attr.Numeric == x1.Attr.Numeric) && ((x0.Attr.Show == x1.Attr.Show) && ((x0.Attr.Modified == x1.Attr.Modified) && true))))) (by kernel_rfl))) c36) ?_)
        refine lwp_run 16 (by kernel_rfl) ?_
        refine lwp_nil ?_
        refine cwp_ret ?_
        obtain rfl := Option.some.inj H
        show Exists _
        exact ⟨.bool false, by kernel_rfl, I, rfl, pt21⟩
      · replace H := bif_t c36 H
        refine lwp_op (by kernel_rfl) (owp_run (.bool true) (run_bool (run_eqAgg (xs := #[.bool x0.Attr.Protected, .bool x0.Attr.Numeric, .int .i64 x0.Attr.Show, .bool x0.Attr.Modified]) (ys := #[.bool x1.Attr.Protected, .bool x1.Attr.Numeric, .int .i64 x1.Attr.Show, .bool x1.Attr.Modified]) (by kernel_rfl) (by kernel_rfl) (by kernel_rfl) (eqB_run (b := ((x0.Attr.Protected == x1.Attr.Protected) && ((x0.Attr.Numeric == x1.Attr.Numeric) && ((x0.Attr.Show == x1.Attr.Show) && ((x0.Attr.Modified == x1.Attr.Modified) && true))))) (by kernel_rfl))) c36) ?_)
        refine lwp_run 3 (by kernel_rfl) ?_
        refine lwp_op (by kernel_rfl) (owp_load (by kernel_rfl) (by kernel_rfl) (f24.cell (off := 6) rfl) ?_)
        refine lwp_run 1 (by kernel_rfl) ?_
        refine lwp_op (by kernel_rfl) (owp_load (by kernel_rfl) (by kernel_rfl) (o20.cell (off := 6) rfl) ?_)
        by_cases c37 : x0.Addr = x1.Addr
        · rw [if_pos c37] at H
          refine lwp_op (by kernel_rfl) (owp_pure ((.bool true)) (pr_bool (by kernel_rfl) (eqT c37)) ?_)
          refine lwp_run 3 (by kernel_rfl) ?_
          refine lwp_op (by kernel_rfl) (owp_load (by kernel_rfl) (by kernel_rfl) (f24.cell (off := 7) rfl) ?_)
          refine lwp_run 1 (by kernel_rfl) ?_
          refine lwp_op (by kernel_rfl) (owp_load (by kernel_rfl) (by kernel_rfl) (o20.cell (off := 7) rfl) ?_)
          refine lwp_run 3 (by kernel_rfl) ?_
          refine lwp_nil ?_
          refine cwp_ret ?_
          obtain rfl := Option.some.inj H
          show Exists _
          exact ⟨.bool (x0.Char == x1.Char), by kernel_rfl, I, rfl, pt21⟩
        · rw [if_neg c37] at H
          refine lwp_op (by kernel_rfl) (owp_pure ((.bool false)) (pr_bool (by kernel_rfl) (eqF c37)) ?_)
          refine lwp_run 9 (by kernel_rfl) ?_
          refine lwp_nil ?_
          refine cwp_ret ?_
          obtain rfl := Option.some.inj H
          show Exists _
          exact ⟨.bool false, by kernel_rfl, I, rfl, pt21⟩
  · rw [if_neg c25] at H
    refine lwp_op (by kernel_rfl) (owp_pure ((.bool false)) (pr_bool (by kernel_rfl) (eqF c25)) ?_)
    refine lwp_run 29 (by kernel_rfl) ?_
    refine lwp_nil ?_
    refine cwp_ret ?_
    obtain rfl := Option.some.inj H
    show Exists _
    exact ⟨.bool false, by kernel_rfl, I, rfl, pt21⟩

/-! slices.Clone[[]byte,byte] -/
def slices_Clone_bytes.m (x0 : (List Int)) : Option (List Int) :=
  ((app [] x0).bind fun l15 => (some l15))

set_option maxRecDepth 100000 in
theorem slices_Clone_bytes.calls {I : Gh} {h : Heap} {x0 : List Int} {a1 : Option Addr} {c2 : Nat} (hB : Bd I h) (r4 : Rd (tInt .u8) I h a1 c2 x0) {r : (List Int)}
    (H : slices_Clone_bytes.m x0 = some r) :
    Ret Tryd.prog 40 #[.slice a1 x0.length c2] h (fun v h' => ∃ (I' : Gh) (a26 : Option Addr) (c27 : Nat), .slice a26 r.length c27 = v ∧ Pst No I h I' h' ∧ Own (tInt .u8) I' h' a26 c27 r ∧ (∀ b, InA a26 b → No b ∨ h.size ≤ b)) := by
  unfold slices_Clone_bytes.m at H
  refine ret_of (args := [.slice a1 x0.length c2]) (rs := [.tmp 2]) (N := 8) Tryd.func40 rfl rfl rfl (Nat.le_of_ble_eq_true rfl) ?_
  have pt0 : Pst No I h I h := Pst.refl hB
  refine cwp_seq ?_
  refine cwp_region ?_
  refine lwp_run 1 (by kernel_rfl) ?_
  refine lwp_nil ?_
  refine cwp_seq ?_
  refine cwp_seq ?_
  refine cwp_region ?_
  refine lwp_run 1 (by kernel_rfl) ?_
  rcases a1 with _ | ad5
  · obtain ⟨rfl, rfl⟩ := (r4.toSl).nil rfl
    replace H : (some []) = some r := by simpa [app, Lim] using H
    refine lwp_run 1 (by kernel_rfl) ?_
    refine lwp_nil ?_
    refine cwp_true (by kernel_rfl) ?_
    refine cwp_seq ?_
    refine cwp_region ?_
    refine lwp_run 1 (by kernel_rfl) ?_
    refine lwp_nil ?_
    refine cwp_ret ?_
    obtain rfl := Option.some.inj H
    show Exists _
    exact ⟨.slice none 0 0, by kernel_rfl, I, none, 0, rfl, pt0, (own_nil (tInt .u8) I I h), none_nw⟩
  · refine lwp_run 1 (by kernel_rfl) ?_
    refine lwp_nil ?_
    refine cwp_false (by kernel_rfl) ?_
    refine cwp_skip ?_
    refine cwp_seq ?_
    refine cwp_region ?_
    refine lwp_op (by kernel_rfl) (owp_buildSlice (e := 5) [] 1 (.int .u8 0) hB (by kernel_rfl) (by kernel_rfl) (by kernel_rfl) (by kernel_rfl) (by kernel_rfl) ?_)
    intro b6 h7 hc8 p9 o10
    have pt11 := pt0.no p9
    have w12 := o10.own (l := ([] : List Int)) (Reps.int (I := I) (k := .u8) (l := []))
    have fw12 := some_nw (M := No) (Nat.le_trans pt0.size hc8)
    refine lwp_run 1 (by kernel_rfl) ?_
    have f14 := r4.up (p9.up hB (fun _ x => x.elim))
    obtain ⟨l15, m16, H⟩ := bind_some H
    refine lwp_op (by kernel_rfl) (owp_app (e := 5) (bytes := 1) (tInt .u8) (by kernel_rfl) (elemOk_of (by kernel_rfl)) rfl rfl p9.bd p9.bd w12 w12.notI (f14.toSl) m16 (by kernel_rfl) (by kernel_rfl) ?_)
    intro a17 c18 h19 p20 o21 fr22
    have pt23 := pt11.own p20 fw12
    have fr25 := nw_step (M := No) (n := h.size) fw12 fr22 pt11.size
    refine lwp_run 1 (by kernel_rfl) ?_
    refine lwp_nil ?_
    refine cwp_ret ?_
    obtain rfl := Option.some.inj H
    show Exists _
    exact ⟨.slice a17 l15.length c18, by kernel_rfl, I, a17, c18, rfl, pt23, o21, fr25⟩

/-! shutter/order.byteOf -/
def order_byteOf.m (x0 : Int) : Option Int :=
  (if 0 ≤ x0 then (if x0 < 8 then (some (at_ [0, 0, 29, 17, 19, 5, 60, 18] x0)) else none) else none)

set_option maxRecDepth 100000 in
theorem order_byteOf.calls {I : Gh} {h : Heap} {x0 : Int} (_hB : Bd I h)  {r : Int}
    (H : order_byteOf.m x0 = some r) :
    Ret Tryd.prog 41 #[.int .i64 x0] h (fun v h' => ∃ _ : Unit, .int .u8 r = v ∧ h = h') := by
  unfold order_byteOf.m at H
  refine ret_of (args := [.int .i64 x0]) (rs := [.tmp 2]) (N := 6) Tryd.func41 rfl rfl rfl (Nat.le_of_ble_eq_true rfl) ?_
  refine cwp_seq ?_
  refine cwp_region ?_
  refine lwp_run 1 (by kernel_rfl) ?_
  refine lwp_nil ?_
  refine cwp_seq ?_
  refine cwp_region ?_
  obtain ⟨c1, H⟩ := guard_pos H
  obtain ⟨c2, H⟩ := guard_pos H
  refine lwp_run 2 (by kernel_rfl) ?_
  refine lwp_op (by kernel_rfl) (owp_pure ((.int .u8 (at_ [0, 0, 29, 17, 19, 5, 60, 18] x0))) (pr_indexAgg (e := 5) (l := [0, 0, 29, 17, 19, 5, 60, 18]) (n := 8) (kk := .i64) (by kernel_rfl) rfl (by kernel_rfl) (by kernel_rfl) (by kernel_rfl) (by kernel_rfl) c1 c2) ?_)
  refine lwp_run 1 (by kernel_rfl) ?_
  refine lwp_nil ?_
  refine cwp_ret ?_
  obtain rfl := Option.some.inj H
  show Exists _
  exact ⟨.int .u8 (at_ [0, 0, 29, 17, 19, 5, 60, 18] x0), by kernel_rfl, (), rfl, rfl⟩

/-! shutter/six.digit -/
def six_digit.m (x0 : Int) : Option Int :=
  (if x0 ≥ 97 then (some (w64 ((w64 ((w64 (x0)) - 39)) - 48))) else (some (w64 ((w64 (x0)) - 48))))

set_option maxRecDepth 100000 in
theorem six_digit.calls {I : Gh} {h : Heap} {x0 : Int} (_hB : Bd I h)  {r : Int}
    (H : six_digit.m x0 = some r) :
    Ret Tryd.prog 98 #[.int .u8 x0] h (fun v h' => ∃ _ : Unit, .int .i64 r = v ∧ h = h') := by
  unfold six_digit.m at H
  refine ret_of (args := [.int .u8 x0]) (rs := [.tmp 2]) (N := 14) Tryd.func98 rfl rfl rfl (Nat.le_of_ble_eq_true rfl) ?_
  refine cwp_seq ?_
  refine cwp_region ?_
  refine lwp_run 1 (by kernel_rfl) ?_
  refine lwp_nil ?_
  refine cwp_seq ?_
  refine cwp_region ?_
  refine lwp_run 3 (by kernel_rfl) ?_
  refine lwp_nil ?_
  refine cwp_seq ?_
  refine cwp_block ?_
  refine cwp_seq ?_
  refine cwp_block ?_
  refine cwp_seq ?_
  refine cwp_block ?_
  refine cwp_seq ?_
  refine cwp_seq ?_
  refine cwp_region ?_
  refine lwp_run 1 (by kernel_rfl) ?_
  by_cases c1 : x0 ≥ 97
  · rw [if_pos c1] at H
    refine lwp_op (by kernel_rfl) (owp_pure ((.bool true)) (pr_bool (by kernel_rfl) (decide_eq_true c1)) ?_)
    refine lwp_run 1 (by kernel_rfl) ?_
    refine lwp_nil ?_
    refine cwp_true (by kernel_rfl) ?_
    refine cwp_exit ?_
    refine cwp_region ?_
    refine lwp_run 3 (by kernel_rfl) ?_
    refine lwp_nil ?_
    refine cwp_seq ?_
    refine cwp_region ?_
    refine lwp_run 3 (by kernel_rfl) ?_
    refine lwp_nil ?_
    refine cwp_exit ?_
    refine cwp_seq ?_
    refine cwp_region ?_
    refine lwp_run 2 (by kernel_rfl) ?_
    refine lwp_nil ?_
    refine cwp_ret ?_
    obtain rfl := Option.some.inj H
    show Exists _
    exact ⟨.int .i64 (w64 ((w64 ((w64 (x0)) - 39)) - 48)), by kernel_rfl, (), rfl, rfl⟩
  · rw [if_neg c1] at H
    refine lwp_op (by kernel_rfl) (owp_pure ((.bool false)) (pr_bool (by kernel_rfl) (decide_eq_false c1)) ?_)
    refine lwp_run 1 (by kernel_rfl) ?_
    refine lwp_nil ?_
    refine cwp_false (by kernel_rfl) ?_
    refine cwp_skip ?_
    refine cwp_exit ?_
    refine cwp_seq ?_
    refine cwp_region ?_
    refine lwp_run 3 (by kernel_rfl) ?_
    refine lwp_nil ?_
    refine cwp_exit ?_
    refine cwp_seq ?_
    refine cwp_region ?_
    refine lwp_run 2 (by kernel_rfl) ?_
    refine lwp_nil ?_
    refine cwp_ret ?_
    obtain rfl := Option.some.inj H
    show Exists _
    exact ⟨.int .i64 (w64 ((w64 (x0)) - 48)), by kernel_rfl, (), rfl, rfl⟩

/-! shutter/six.at -/
def six_at.m (x0 : Int) : Option Int :=
  (if 0 ≤ (w64 (2 * x0)) then (if (w64 (2 * x0)) < 128 then (if 0 ≤ (w64 ((w64 (2 * x0)) + 1)) then (if (w64 ((w64 (2 * x0)) + 1)) < 128 then ((six_digit.m (bt (⟨#[52, 48, 99, 49, 99, 50, 99, 51, 99, 52, 99, 53, 99, 54, 99, 55, 99, 56, 99, 57, 52, 97, 52, 98, 52, 99, 52, 100, 52, 101, 52, 102, 53, 48, 100, 49, 100, 50, 100, 51, 100, 52, 100, 53, 100, 54, 100, 55, 100, 56, 100, 57, 53, 97, 53, 98, 53, 99, 53, 100, 53, 101, 53, 102, 54, 48, 54, 49, 101, 50, 101, 51, 101, 52, 101, 53, 101, 54, 101, 55, 101, 56, 101, 57, 54, 97, 54, 98, 54, 99, 54, 100, 54, 101, 54, 102, 102, 48, 102, 49, 102, 50, 102, 51, 102, 52, 102, 53, 102, 54, 102, 55, 102, 56, 102, 57, 55, 97, 55, 98, 55, 99, 55, 100, 55, 101, 55, 102]⟩ : ByteArray) (w64 (2 * x0)))).bind fun t5 => ((six_digit.m (bt (⟨#[52, 48, 99, 49, 99, 50, 99, 51, 99, 52, 99, 53, 99, 54, 99, 55, 99, 56, 99, 57, 52, 97, 52, 98, 52, 99, 52, 100, 52, 101, 52, 102, 53, 48, 100, 49, 100, 50, 100, 51, 100, 52, 100, 53, 100, 54, 100, 55, 100, 56, 100, 57, 53, 97, 53, 98, 53, 99, 53, 100, 53, 101, 53, 102, 54, 48, 54, 49, 101, 50, 101, 51, 101, 52, 101, 53, 101, 54, 101, 55, 101, 56, 101, 57, 54, 97, 54, 98, 54, 99, 54, 100, 54, 101, 54, 102, 102, 48, 102, 49, 102, 50, 102, 51, 102, 52, 102, 53, 102, 54, 102, 55, 102, 56, 102, 57, 55, 97, 55, 98, 55, 99, 55, 100, 55, 101, 55, 102]⟩ : ByteArray) (w64 ((w64 (2 * x0)) + 1)))).bind fun t11 => (some (IntKind.u8.wrap ((bOr .i64 (shl .i64 t5 4) t11)))))) else none) else none) else none) else none)

set_option maxRecDepth 100000 in
theorem six_at.calls {I : Gh} {h : Heap} {x0 : Int} (hB : Bd I h)  {r : Int}
    (H : six_at.m x0 = some r) :
    Ret Tryd.prog 90 #[.int .i64 x0] h (fun v h' => ∃ _ : Unit, .int .u8 r = v ∧ h = h') := by
  unfold six_at.m at H
  refine ret_of (args := [.int .i64 x0]) (rs := [.tmp 2]) (N := 15) Tryd.func90 rfl rfl rfl (Nat.le_of_ble_eq_true rfl) ?_
  refine cwp_seq ?_
  refine cwp_region ?_
  refine lwp_run 1 (by kernel_rfl) ?_
  refine lwp_nil ?_
  refine cwp_seq ?_
  refine cwp_regionD (Keep No h) 13 (by kernel_rfl) ?_
  obtain ⟨c1, H⟩ := guard_pos H
  obtain ⟨c2, H⟩ := guard_pos H
  refine awp_run (fuel := 11) [0, 1] Keep.refl (by kernel_rfl) ?_
  refine awp_pure 2 ((.int .u8 (bt (⟨#[52, 48, 99, 49, 99, 50, 99, 51, 99, 52, 99, 53, 99, 54, 99, 55, 99, 56, 99, 57, 52, 97, 52, 98, 52, 99, 52, 100, 52, 101, 52, 102, 53, 48, 100, 49, 100, 50, 100, 51, 100, 52, 100, 53, 100, 54, 100, 55, 100, 56, 100, 57, 53, 97, 53, 98, 53, 99, 53, 100, 53, 101, 53, 102, 54, 48, 54, 49, 101, 50, 101, 51, 101, 52, 101, 53, 101, 54, 101, 55, 101, 56, 101, 57, 54, 97, 54, 98, 54, 99, 54, 100, 54, 101, 54, 102, 102, 48, 102, 49, 102, 50, 102, 51, 102, 52, 102, 53, 102, 54, 102, 55, 102, 56, 102, 57, 55, 97, 55, 98, 55, 99, 55, 100, 55, 101, 55, 102]⟩ : ByteArray) (w64 (2 * x0))))) rfl (by kernel_rfl) (by kernel_rfl) (pr_indexStr (s := (⟨#[52, 48, 99, 49, 99, 50, 99, 51, 99, 52, 99, 53, 99, 54, 99, 55, 99, 56, 99, 57, 52, 97, 52, 98, 52, 99, 52, 100, 52, 101, 52, 102, 53, 48, 100, 49, 100, 50, 100, 51, 100, 52, 100, 53, 100, 54, 100, 55, 100, 56, 100, 57, 53, 97, 53, 98, 53, 99, 53, 100, 53, 101, 53, 102, 54, 48, 54, 49, 101, 50, 101, 51, 101, 52, 101, 53, 101, 54, 101, 55, 101, 56, 101, 57, 54, 97, 54, 98, 54, 99, 54, 100, 54, 101, 54, 102, 102, 48, 102, 49, 102, 50, 102, 51, 102, 52, 102, 53, 102, 54, 102, 55, 102, 56, 102, 57, 55, 97, 55, 98, 55, 99, 55, 100, 55, 101, 55, 102]⟩ : ByteArray)) (k := .i64) (i := (w64 (2 * x0))) (by kernel_rfl) (by kernel_rfl) (by kernel_rfl) c1 c2) Keep.refl ?_
  obtain ⟨c3, H⟩ := guard_pos H
  obtain ⟨c4, H⟩ := guard_pos H
  refine awp_run (fuel := 7) [5, 6, 7] Keep.refl (by kernel_rfl) ?_
  refine awp_pure 8 ((.int .u8 (bt (⟨#[52, 48, 99, 49, 99, 50, 99, 51, 99, 52, 99, 53, 99, 54, 99, 55, 99, 56, 99, 57, 52, 97, 52, 98, 52, 99, 52, 100, 52, 101, 52, 102, 53, 48, 100, 49, 100, 50, 100, 51, 100, 52, 100, 53, 100, 54, 100, 55, 100, 56, 100, 57, 53, 97, 53, 98, 53, 99, 53, 100, 53, 101, 53, 102, 54, 48, 54, 49, 101, 50, 101, 51, 101, 52, 101, 53, 101, 54, 101, 55, 101, 56, 101, 57, 54, 97, 54, 98, 54, 99, 54, 100, 54, 101, 54, 102, 102, 48, 102, 49, 102, 50, 102, 51, 102, 52, 102, 53, 102, 54, 102, 55, 102, 56, 102, 57, 55, 97, 55, 98, 55, 99, 55, 100, 55, 101, 55, 102]⟩ : ByteArray) (w64 ((w64 (2 * x0)) + 1))))) rfl (by kernel_rfl) (by kernel_rfl) (pr_indexStr (s := (⟨#[52, 48, 99, 49, 99, 50, 99, 51, 99, 52, 99, 53, 99, 54, 99, 55, 99, 56, 99, 57, 52, 97, 52, 98, 52, 99, 52, 100, 52, 101, 52, 102, 53, 48, 100, 49, 100, 50, 100, 51, 100, 52, 100, 53, 100, 54, 100, 55, 100, 56, 100, 57, 53, 97, 53, 98, 53, 99, 53, 100, 53, 101, 53, 102, 54, 48, 54, 49, 101, 50, 101, 51, 101, 52, 101, 53, 101, 54, 101, 55, 101, 56, 101, 57, 54, 97, 54, 98, 54, 99, 54, 100, 54, 101, 54, 102, 102, 48, 102, 49, 102, 50, 102, 51, 102, 52, 102, 53, 102, 54, 102, 55, 102, 56, 102, 57, 55, 97, 55, 98, 55, 99, 55, 100, 55, 101, 55, 102]⟩ : ByteArray)) (k := .i64) (i := (w64 ((w64 (2 * x0)) + 1))) (by kernel_rfl) (by kernel_rfl) (by kernel_rfl) c3 c4) Keep.refl ?_
  obtain ⟨t5, m6, H⟩ := bind_some H
  refine awp_op 3 (by kernel_rfl) rfl (by kernel_rfl) (owp_callF (by kernel_rfl) (six_digit.calls (I := I) hB m6) ?_)
  rintro v7 h8 ⟨_, rfl, rfl⟩
  refine ⟨Keep.refl, ?_⟩
  refine awp_run (fuel := 4) [4] Keep.refl (by kernel_rfl) ?_
  obtain ⟨t11, m12, H⟩ := bind_some H
  refine awp_op 9 (by kernel_rfl) rfl (by kernel_rfl) (owp_callF (by kernel_rfl) (six_digit.calls (I := I) hB m12) ?_)
  rintro v13 h14 ⟨_, rfl, rfl⟩
  refine ⟨Keep.refl, ?_⟩
  refine awp_run (fuel := 0) [10, 11, 12] Keep.refl (by kernel_rfl) ?_
  refine awp_nil (by kernel_rfl) ?_ 0
  refine cwp_ret ?_
  obtain rfl := Option.some.inj H
  show Exists _
  exact ⟨.int .u8 (IntKind.u8.wrap ((bOr .i64 (shl .i64 t5 4) t11))), by kernel_rfl, (), rfl, rfl⟩

/-! shutter/six.Put -/
def six_Put.m (x0 : Int) : Option (Int × GoErr) :=
  (if x0 < 0 then (some (0, (GoErr.no 1))) else (if x0 ≥ 64 then (some (0, (GoErr.no 1))) else ((six_at.m x0).bind fun t3 => (some (t3, GoErr.nil)))))

set_option maxRecDepth 100000 in
theorem six_Put.calls {I : Gh} {h : Heap} {x0 : Int} (hB : Bd I h)  {r : (Int × GoErr)}
    (H : six_Put.m x0 = some r) :
    Ret Tryd.prog 73 #[.int .i64 x0] h (fun v h' => ∃ (v9 : Value), .tuple #[.int .u8 r.1, v9] = v ∧ h = h' ∧ ErrV I h r.2 v9) := by
  unfold six_Put.m at H
  refine ret_of (args := [.int .i64 x0]) (rs := [.tmp 2, .tmp 3]) (N := 13) Tryd.func73 rfl rfl rfl (Nat.le_of_ble_eq_true rfl) ?_
  refine cwp_seq ?_
  refine cwp_region ?_
  refine lwp_run 2 (by kernel_rfl) ?_
  refine lwp_nil ?_
  refine cwp_seq ?_
  refine cwp_seq ?_
  refine cwp_region ?_
  refine lwp_run 1 (by kernel_rfl) ?_
  by_cases c1 : x0 < 0
  · rw [if_pos c1] at H
    refine lwp_op (by kernel_rfl) (owp_pure ((.bool true)) (pr_bool (by kernel_rfl) (decide_eq_true c1)) ?_)
    refine lwp_run 4 (by kernel_rfl) ?_
    refine lwp_nil ?_
    refine cwp_true (by kernel_rfl) ?_
    refine cwp_seq ?_
    refine cwp_region ?_
    refine lwp_run 3 (by kernel_rfl) ?_
    refine lwp_nil ?_
    refine cwp_ret ?_
    obtain rfl := Option.some.inj H
    show Exists _
    exact ⟨.tuple #[.int .u8 0, .iface 78 (.int .i64 1)], by kernel_rfl, (.iface 78 (.int .i64 1)), rfl, rfl, (show ErrV I h (GoErr.no 1) (.iface 78 (.int .i64 1)) from rfl)⟩
  · rw [if_neg c1] at H
    refine lwp_op (by kernel_rfl) (owp_pure ((.bool false)) (pr_bool (by kernel_rfl) (decide_eq_false c1)) ?_)
    refine lwp_run 2 (by kernel_rfl) ?_
    by_cases c2 : x0 ≥ 64
    · rw [if_pos c2] at H
      refine lwp_op (by kernel_rfl) (owp_pure ((.bool true)) (pr_bool (by kernel_rfl) (decide_eq_true c2)) ?_)
      refine lwp_run 1 (by kernel_rfl) ?_
      refine lwp_nil ?_
      refine cwp_true (by kernel_rfl) ?_
      refine cwp_seq ?_
      refine cwp_region ?_
      refine lwp_run 3 (by kernel_rfl) ?_
      refine lwp_nil ?_
      refine cwp_ret ?_
      obtain rfl := Option.some.inj H
      show Exists _
      exact ⟨.tuple #[.int .u8 0, .iface 78 (.int .i64 1)], by kernel_rfl, (.iface 78 (.int .i64 1)), rfl, rfl, (show ErrV I h (GoErr.no 1) (.iface 78 (.int .i64 1)) from rfl)⟩
    · rw [if_neg c2] at H
      refine lwp_op (by kernel_rfl) (owp_pure ((.bool false)) (pr_bool (by kernel_rfl) (decide_eq_false c2)) ?_)
      refine lwp_run 1 (by kernel_rfl) ?_
      refine lwp_nil ?_
      refine cwp_false (by kernel_rfl) ?_
      refine cwp_skip ?_
      refine cwp_seq ?_
      refine cwp_region ?_
      refine lwp_run 1 (by kernel_rfl) ?_
      obtain ⟨t3, m4, H⟩ := bind_some H
      refine lwp_op (by kernel_rfl) (owp_callF (by kernel_rfl) (six_at.calls (I := I) hB m4) ?_)
      rintro v5 h6 ⟨_, rfl, rfl⟩
      refine lwp_run 2 (by kernel_rfl) ?_
      refine lwp_nil ?_
      refine cwp_ret ?_
      obtain rfl := Option.some.inj H
      show Exists _
      exact ⟨.tuple #[.int .u8 t3, .nilIface], by kernel_rfl, (.nilIface), rfl, rfl, (show ErrV I h GoErr.nil .nilIface from rfl)⟩

/-! shutter/attr.sum -/
def attr_sum.l1.m (K : Nat) (x0 : (List Anon_is_n)) : Nat → Int → Int → Option (Int)
  | 0, _, _ => none
  | k + 1, x8, x10 => (letJ (α := Bool → Option (Int)) (fun (x24 : Bool) => (bif x24 then (if 0 ≤ x10 then (if x10 < (x0.length : Int) then (bif (at_ x0 x10).is' then (attr_sum.l1.m K x0 k (w64 (x8 + ((at_ x0 x10).n'))) (w64 (x10 + 1))) else (attr_sum.l1.m K x0 k x8 (w64 (x10 + 1)))) else none) else none) else (some (x8)))) fun (j25 : Bool → Option (Int)) => (if x10 < (x0.length : Int) then (j25 true) else (j25 false)))
def attr_sum.m (K : Nat) (x0 : (List Anon_is_n)) : Option Int :=
  ((attr_sum.l1.m K x0 K 0 0).bind fun x16 => (some x16))

set_option maxRecDepth 100000 in
theorem attr_sum.calls {I : Gh} {h : Heap} {K : Nat} {x0 : List Anon_is_n} {a1 : Option Addr} {c2 : Nat} (hB : Bd I h) (r4 : Rd t_Anon_is_n I h a1 c2 x0) {r : Int}
    (H : attr_sum.m K x0 = some r) :
    Ret Tryd.prog 74 #[.slice a1 x0.length c2] h (fun v h' => ∃ (I' : Gh), .int .i64 r = v ∧ Pst No I h I' h') := by
  unfold attr_sum.m at H
  refine ret_of (args := [.slice a1 x0.length c2]) (rs := [.tmp 2]) (N := 20) Tryd.func74 rfl rfl rfl (Nat.le_of_ble_eq_true rfl) ?_
  have pt0 : Pst No I h I h := Pst.refl hB
  refine cwp_seq ?_
  refine cwp_region ?_
  refine lwp_run 1 (by kernel_rfl) ?_
  refine lwp_nil ?_
  refine cwp_seq ?_
  refine cwp_region ?_
  refine lwp_run 1 (by kernel_rfl) ?_
  refine lwp_nil ?_
  refine cwp_seq ?_
  refine cwp_seq ?_
  refine cwp_region ?_
  refine lwp_run 3 (by kernel_rfl) ?_
  refine lwp_nil ?_
  refine cwp_block ?_
  obtain ⟨s12, m17, HR18⟩ := bind_some H
  refine cwp_loopE 0 (fun ρ' h13 => ∃ (x16 : Int) (I14 : Gh), x16 = s12 ∧ Fits [(3, .int .i64 x16)] ρ' ∧ Pst No I h I14 h13) ?_ ?_
  · refine cwp_loop (fun k' ρ' h5 => ∃ (x8 : Int) (x10 : Int) (I6 : Gh), attr_sum.l1.m K x0 k' x8 x10 = some s12 ∧ Fits [(3, .int .i64 x8), (6, .slice a1 x0.length c2), (7, .int .i64 (x0.length : Int)), (8, .int .i64 x10)] ρ' ∧ Pst No I h I6 h5 ∧ Rd t_Anon_is_n I6 h5 a1 c2 x0) K ⟨0, 0, I, m17, ⟨by kernel_rfl, by kernel_rfl, by kernel_rfl, by kernel_rfl, trivial⟩, pt0, r4⟩ ?_
    clear m17
    rintro k' ρ' h5 ⟨x8, x10, I6, H, hf, pt7, r9⟩
    cases k' with
    | zero => cases H
    | succ k =>
      rw [attr_sum.l1.m] at H
      refine cwp_fits _ hf ?_
      obtain ⟨j25, e44, H⟩ := letJ_some H
      refine cwp_join (fun ρ' h20 => ∃ (x24 : Bool) (I21 : Gh), j25 x24 = some s12 ∧ Fits [(3, .int .i64 x8), (6, .slice a1 x0.length c2), (7, .int .i64 (x0.length : Int)), (8, .int .i64 x10), (9, .bool x24)] ρ' ∧ Pst No I h I21 h20 ∧ Rd t_Anon_is_n I21 h20 a1 c2 x0) ?_ ?_
      · refine cwp_region ?_
        by_cases c19 : x10 < (x0.length : Int)
        · rw [if_pos c19] at H
          refine lwp_op (by kernel_rfl) (owp_pure ((.bool true)) (pr_bool (by kernel_rfl) (decide_eq_true c19)) ?_)
          refine lwp_nil ?_
          exact ⟨true, I6, H, ⟨by kernel_rfl, by kernel_rfl, by kernel_rfl, by kernel_rfl, by kernel_rfl, trivial⟩, pt7, r9⟩
        · rw [if_neg c19] at H
          refine lwp_op (by kernel_rfl) (owp_pure ((.bool false)) (pr_bool (by kernel_rfl) (decide_eq_false c19)) ?_)
          refine lwp_nil ?_
          exact ⟨false, I6, H, ⟨by kernel_rfl, by kernel_rfl, by kernel_rfl, by kernel_rfl, by kernel_rfl, trivial⟩, pt7, r9⟩
      · clear H
        rintro ρ' h20 ⟨x24, I21, H, hf, pt22, r23⟩
        refine cwp_fits _ hf ?_
        subst e44
        try dsimp only at H
        refine cwp_seq ?_
        cases x24
        · rw [cond_false] at H
          refine cwp_false (by kernel_rfl) ?_
          refine cwp_exit ?_
          obtain rfl := Option.some.inj H
          show Exists _
          exact ⟨x8, I21, rfl, ⟨by kernel_rfl, trivial⟩, pt22⟩
        · rw [cond_true] at H
          refine cwp_true (by kernel_rfl) ?_
          refine cwp_skip ?_
          refine cwp_seq ?_
          refine cwp_block ?_
          refine cwp_seq ?_
          refine cwp_region ?_
          obtain ⟨c26, H⟩ := guard_pos H
          obtain ⟨c27, H⟩ := guard_pos H
          have hs28 := (r23.toSl).isSome c26 c27
          refine lwp_op (by kernel_rfl) (owp_pure (elemPtr a1 (x10.toNat * 2)) (pr_indexElem (e := 117) (r23.toSl) (k := .i64) (by kernel_rfl) (by kernel_rfl) (by kernel_rfl) (by kernel_rfl) c26 c27) ?_)
          obtain ⟨cs29, hs30, rp31⟩ := (r23.toSl).seg c26 c27
          obtain rfl := t_Anon_is_n.open_ rp31
          refine lwp_op (by kernel_rfl) (owp_loadN (by kernel_rfl) (by kernel_rfl) (by kernel_rfl) hs30 ?_)
          refine lwp_op (by kernel_rfl) (owp_alloc [.bool false, .int .i64 0] (.agg #[.bool false, .int .i64 0]) pt22.bd (by kernel_rfl) (by kernel_rfl) ?_)
          intro b32 h33 hc34 p35 o36
          have pt37 := pt22.no p35
          have fr38 : No b32 ∨ h.size ≤ b32 := .inr (Nat.le_trans pt22.size hc34)
          refine lwp_op (by kernel_rfl) (owp_storeN 0 [.bool ((at_ x0 x10).is'), .int .i64 ((at_ x0 x10).n')] p35.bd o36 (by kernel_rfl) (by kernel_rfl) (by simp [Value.oneCell']) (by kernel_rfl) (Nat.le_of_ble_eq_true rfl) ?_)
          intro h39 p40 o41
          have pt42 := pt37.own p40 (one_nw fr38)
          refine lwp_nil ?_
          refine cwp_seq ?_
          refine cwp_region ?_
          refine lwp_run 1 (by kernel_rfl) ?_
          rcases bool_or ((at_ x0 x10).is') with c43 | c43
          · replace H := bif_f c43 H
            refine lwp_op (by kernel_rfl) (owp_load (by kernel_rfl) (by kernel_rfl) ((o41.cell (off := 0) rfl).trans (congrArg (fun b => some (Value.bool b)) c43)) ?_)
            refine lwp_nil ?_
            refine cwp_false (by kernel_rfl) ?_
            refine cwp_skip ?_
            refine cwp_region ?_
            refine lwp_run 2 (by kernel_rfl) ?_
            refine lwp_nil ?_
            have f100003 := r23.up (p35.up pt22.bd (fun _ x => x.elim))
            have f100004 := f100003.up (p40.up p35.bd (one_not o36.no))
            show Exists _
            exact ⟨k, Nat.lt_succ_self _, x8, (w64 (x10 + 1)), I21, H, ⟨by kernel_rfl, by kernel_rfl, by kernel_rfl, by kernel_rfl, trivial⟩, pt42, f100004⟩
          · replace H := bif_t c43 H
            refine lwp_op (by kernel_rfl) (owp_load (by kernel_rfl) (by kernel_rfl) ((o41.cell (off := 0) rfl).trans (congrArg (fun b => some (Value.bool b)) c43)) ?_)
            refine lwp_nil ?_
            refine cwp_true (by kernel_rfl) ?_
            refine cwp_region ?_
            refine lwp_run 2 (by kernel_rfl) ?_
            refine lwp_op (by kernel_rfl) (owp_load (by kernel_rfl) (by kernel_rfl) (o41.cell (off := 1) rfl) ?_)
            refine lwp_run 2 (by kernel_rfl) ?_
            refine lwp_nil ?_
            refine cwp_region ?_
            refine lwp_run 2 (by kernel_rfl) ?_
            refine lwp_nil ?_
            have f100001 := r23.up (p35.up pt22.bd (fun _ x => x.elim))
            have f100002 := f100001.up (p40.up p35.bd (one_not o36.no))
            show Exists _
            exact ⟨k, Nat.lt_succ_self _, (w64 (x8 + ((at_ x0 x10).n'))), (w64 (x10 + 1)), I21, H, ⟨by kernel_rfl, by kernel_rfl, by kernel_rfl, by kernel_rfl, trivial⟩, pt42, f100002⟩
  · rintro ρ' h13 ⟨x16, I14, rfl, hf, pt15⟩
    have H := HR18
    try dsimp only at H
    refine cwp_fits _ hf ?_
    refine cwp_seq ?_
    refine cwp_region ?_
    refine lwp_run 2 (by kernel_rfl) ?_
    refine lwp_nil ?_
    refine cwp_ret ?_
    obtain rfl := Option.some.inj H
    show Exists _
    exact ⟨.int .i64 x16, by kernel_rfl, I14, rfl, pt15⟩

/-! shutter/attr.bit -/
def attr_bit.m (x0 : Bool) (x1 : Int) : Option Anon_is_n :=
  (some (⟨x0, x1⟩ : Anon_is_n))

set_option maxRecDepth 100000 in
theorem attr_bit.calls {I : Gh} {h : Heap} {x0 : Bool} {x1 : Int} (hB : Bd I h)  {r : Anon_is_n}
    (H : attr_bit.m x0 x1 = some r) :
    Ret Tryd.prog 75 #[.bool x0, .int .i64 x1] h (fun v h' => ∃ (I' : Gh), .agg #[.bool r.is', .int .i64 r.n'] = v ∧ Pst No I h I' h') := by
  unfold attr_bit.m at H
  refine ret_of2 (args := [.bool x0, .int .i64 x1]) (rs := [.cell 4 117]) (N := 8) Tryd.func75 rfl rfl rfl (Nat.le_of_ble_eq_true rfl) ?_
  have pt0 : Pst No I h I h := Pst.refl hB
  refine cwp_seq ?_
  refine cwp_region ?_
  refine lwp_op (by kernel_rfl) (owp_alloc [.bool false, .int .i64 0] (.agg #[.bool false, .int .i64 0]) hB (by kernel_rfl) (by kernel_rfl) ?_)
  intro b1 h2 hc3 p4 o5
  have pt6 := pt0.no p4
  have fr7 : No b1 ∨ h.size ≤ b1 := .inr (Nat.le_trans pt0.size hc3)
  refine lwp_nil ?_
  refine cwp_seq ?_
  refine cwp_region ?_
  refine lwp_run 3 (by kernel_rfl) ?_
  refine lwp_op (by kernel_rfl) (owp_storeN 0 [.bool x0, .int .i64 x1] p4.bd o5 (by kernel_rfl) (by kernel_rfl) (by simp [Value.oneCell']) (by kernel_rfl) (Nat.le_of_ble_eq_true rfl) ?_)
  intro h8 p9 o10
  have pt11 := pt6.own p9 (one_nw fr7)
  refine lwp_nil ?_
  refine cwp_ret ?_
  obtain rfl := Option.some.inj H
  show Exists _
  exact ⟨[.agg #[.bool x0, .int .i64 x1]], (.cons (.agg (by kernel_rfl) (by kernel_rfl) (by kernel_rfl) (o10.seg_ 0 2 (Nat.le_of_ble_eq_true rfl))) .nil), I, rfl, pt11⟩

/-! shutter/attr.Put -/
def attr_Put.m (K : Nat) (x0 : api_Attr) : Option (Int × GoErr) :=
  (if x0.Show < 0 then (some (0, (GoErr.no 1))) else (if x0.Show > 3 then (some (0, (GoErr.no 1))) else ((attr_bit.m x0.Protected 32).bind fun t10 => ((attr_bit.m x0.Numeric 16).bind fun t18 => ((attr_bit.m x0.Modified 1).bind fun t26 => ((attr_sum.m K [t10, t18, t26]).bind fun t47 => ((six_Put.m (w64 (t47 + (w64 (4 * x0.Show))))).bind fun t56 => (some (t56.1, t56.2)))))))))

set_option maxRecDepth 100000 in
theorem attr_Put.calls {I : Gh} {h : Heap} {K : Nat} {x0 : api_Attr} (hB : Bd I h)  {r : (Int × GoErr)}
    (H : attr_Put.m K x0 = some r) :
    Ret Tryd.prog 42 #[.agg #[.bool x0.Protected, .bool x0.Numeric, .int .i64 x0.Show, .bool x0.Modified]] h (fun v h' => ∃ (I' : Gh) (v65 : Value), .tuple #[.int .u8 r.1, v65] = v ∧ Pst No I h I' h' ∧ ErrV I' h' r.2 v65) := by
  unfold attr_Put.m at H
  refine ret_of (args := [.agg #[.bool x0.Protected, .bool x0.Numeric, .int .i64 x0.Show, .bool x0.Modified]]) (rs := [.tmp 2, .tmp 3]) (N := 31) Tryd.func42 rfl rfl rfl (Nat.le_of_ble_eq_true rfl) ?_
  have pt0 : Pst No I h I h := Pst.refl hB
  refine cwp_seq ?_
  refine cwp_region ?_
  refine lwp_op (by kernel_rfl) (owp_box [.bool x0.Protected, .bool x0.Numeric, .int .i64 x0.Show, .bool x0.Modified] hB (by kernel_rfl) ?_)
  intro b1 h2 hc3 p4 o5
  have pt6 := pt0.no p4
  have fr7 : No b1 ∨ h.size ≤ b1 := .inr (Nat.le_trans pt0.size hc3)
  refine lwp_run 2 (by kernel_rfl) ?_
  refine lwp_nil ?_
  refine cwp_seq ?_
  refine cwp_seq ?_
  refine cwp_region ?_
  refine lwp_run 1 (by kernel_rfl) ?_
  refine lwp_op (by kernel_rfl) (owp_load (by kernel_rfl) (by kernel_rfl) (o5.cell (off := 2) rfl) ?_)
  by_cases c8 : x0.Show < 0
  · rw [if_pos c8] at H
    refine lwp_op (by kernel_rfl) (owp_pure ((.bool true)) (pr_bool (by kernel_rfl) (decide_eq_true c8)) ?_)
    refine lwp_run 5 (by kernel_rfl) ?_
    refine lwp_nil ?_
    refine cwp_true (by kernel_rfl) ?_
    refine cwp_seq ?_
    refine cwp_region ?_
    refine lwp_run 3 (by kernel_rfl) ?_
    refine lwp_nil ?_
    refine cwp_ret ?_
    obtain rfl := Option.some.inj H
    show Exists _
    exact ⟨.tuple #[.int .u8 0, .iface 78 (.int .i64 1)], by kernel_rfl, I, (.iface 78 (.int .i64 1)), rfl, pt6, (show ErrV I h2 (GoErr.no 1) (.iface 78 (.int .i64 1)) from rfl)⟩
  · rw [if_neg c8] at H
    refine lwp_op (by kernel_rfl) (owp_pure ((.bool false)) (pr_bool (by kernel_rfl) (decide_eq_false c8)) ?_)
    refine lwp_run 2 (by kernel_rfl) ?_
    refine lwp_op (by kernel_rfl) (owp_load (by kernel_rfl) (by kernel_rfl) (o5.cell (off := 2) rfl) ?_)
    by_cases c9 : x0.Show > 3
    · rw [if_pos c9] at H
      refine lwp_op (by kernel_rfl) (owp_pure ((.bool true)) (pr_bool (by kernel_rfl) (decide_eq_true c9)) ?_)
      refine lwp_run 1 (by kernel_rfl) ?_
      refine lwp_nil ?_
      refine cwp_true (by kernel_rfl) ?_
      refine cwp_seq ?_
      refine cwp_region ?_
      refine lwp_run 3 (by kernel_rfl) ?_
      refine lwp_nil ?_
      refine cwp_ret ?_
      obtain rfl := Option.some.inj H
      show Exists _
      exact ⟨.tuple #[.int .u8 0, .iface 78 (.int .i64 1)], by kernel_rfl, I, (.iface 78 (.int .i64 1)), rfl, pt6, (show ErrV I h2 (GoErr.no 1) (.iface 78 (.int .i64 1)) from rfl)⟩
    · rw [if_neg c9] at H
      refine lwp_op (by kernel_rfl) (owp_pure ((.bool false)) (pr_bool (by kernel_rfl) (decide_eq_false c9)) ?_)
      refine lwp_run 1 (by kernel_rfl) ?_
      refine lwp_nil ?_
      refine cwp_false (by kernel_rfl) ?_
      refine cwp_skip ?_
      refine cwp_seq ?_
      refine cwp_regionD (Keep No h2) 20 (by kernel_rfl) ?_
      refine awp_run (fuel := 19) [0] Keep.refl (by kernel_rfl) ?_
      refine awp_load 1 rfl (by kernel_rfl) (by kernel_rfl) (by kernel_rfl) (by kernel_rfl) Keep.refl (o5.cell (off := 0) rfl) (fun _ _ x => x.elim) ?_
      refine awp_run (fuel := 17) [3] Keep.refl (by kernel_rfl) ?_
      refine awp_load 4 rfl (by kernel_rfl) (by kernel_rfl) (by kernel_rfl) (by kernel_rfl) Keep.refl (o5.cell (off := 1) rfl) (fun _ _ x => x.elim) ?_
      refine awp_run (fuel := 15) [6] Keep.refl (by kernel_rfl) ?_
      refine awp_load 7 rfl (by kernel_rfl) (by kernel_rfl) (by kernel_rfl) (by kernel_rfl) Keep.refl (o5.cell (off := 3) rfl) (fun _ _ x => x.elim) ?_
      refine awp_run (fuel := 13) [11] Keep.refl (by kernel_rfl) ?_
      refine awp_load 12 rfl (by kernel_rfl) (by kernel_rfl) (by kernel_rfl) (by kernel_rfl) Keep.refl (o5.cell (off := 2) rfl) (fun _ _ x => x.elim) ?_
      refine awp_run (fuel := 11) [13] Keep.refl (by kernel_rfl) ?_
      obtain ⟨t10, m11, H⟩ := bind_some H
      refine awp_op 2 (by kernel_rfl) rfl (by kernel_rfl) (owp_callF (by kernel_rfl) (attr_bit.calls (I := I) p4.bd m11) ?_)
      rintro v12 h13 ⟨I14, rfl, p15⟩
      have pt16 := pt6.no p15
      have hK17 := Keep.post (M := No) Keep.refl (Nat.le_refl _) p15 (fun _ x => x.elim)
      refine ⟨hK17, ?_⟩
      obtain ⟨t18, m19, H⟩ := bind_some H
      refine awp_op 5 (by kernel_rfl) rfl (by kernel_rfl) (owp_callF (by kernel_rfl) (attr_bit.calls (I := I14) p15.bd m19) ?_)
      rintro v20 h21 ⟨I22, rfl, p23⟩
      have pt24 := pt16.no p23
      have hK25 := Keep.post (M := No) hK17 (Nat.le_trans (Nat.le_refl _) p15.size) p23 (fun _ x => x.elim)
      refine ⟨hK25, ?_⟩
      obtain ⟨t26, m27, H⟩ := bind_some H
      refine awp_op 8 (by kernel_rfl) rfl (by kernel_rfl) (owp_callF (by kernel_rfl) (attr_bit.calls (I := I22) p23.bd m27) ?_)
      rintro v28 h29 ⟨I30, rfl, p31⟩
      have pt32 := pt24.no p31
      have hK33 := Keep.post (M := No) hK25 (Nat.le_trans (Nat.le_trans (Nat.le_refl _) p15.size) p23.size) p31 (fun _ x => x.elim)
      refine ⟨hK33, ?_⟩
      refine awp_op 9 (by kernel_rfl) rfl (by kernel_rfl) (owp_buildSlice (e := 117) [.bool t10.is', .int .i64 t10.n', .bool t18.is', .int .i64 t18.n', .bool t26.is', .int .i64 t26.n'] 2 (.agg #[.bool false, .int .i64 0]) p31.bd (by kernel_rfl) (by kernel_rfl) (by kernel_rfl) (by kernel_rfl) (by kernel_rfl) ?_)
      intro b34 h35 hc36 p37 o38
      have pt39 := pt32.no p37
      have w40 := o38.own (l := ([t10, t18, t26] : List Anon_is_n)) (Reps.cons (T := t_Anon_is_n) (c := [.bool t10.is', .int .i64 t10.n']) (x := t10) (rfl) (Reps.cons (T := t_Anon_is_n) (c := [.bool t18.is', .int .i64 t18.n']) (x := t18) (rfl) (Reps.cons (T := t_Anon_is_n) (c := [.bool t26.is', .int .i64 t26.n']) (x := t26) (rfl) (.nil : Reps t_Anon_is_n I30 h35 [] []))))
      have fw40 := some_nw (M := No) (Nat.le_trans pt32.size hc36)
      have f42 := o5.post p15 (fun x => x.elim)
      have f43 := f42.post p23 (fun x => x.elim)
      have f44 := f43.post p31 (fun x => x.elim)
      have d45 := some_ne (ne_new f44.lt hc36)
      have hK46 := Keep.post (M := No) hK33 (Nat.le_trans (Nat.le_trans (Nat.le_trans (Nat.le_refl _) p15.size) p23.size) p31.size) p37 (fun _ x => x.elim)
      refine ⟨hK46, ?_⟩
      obtain ⟨t47, m48, H⟩ := bind_some H
      refine awp_op 10 (by kernel_rfl) rfl (by kernel_rfl) (owp_callF (by kernel_rfl) (attr_sum.calls (I := (Fz I30 (some ⟨b34, 0, none⟩))) (bd_fz w40 p37.bd) w40.rd m48) ?_)
      rintro v49 h50 ⟨I51, rfl, p52⟩
      have p53 := Pst.forget p52 p37.bd
      have pt54 := pt39.no p53
      have hK55 := Keep.post (M := No) hK46 (Nat.le_trans (Nat.le_trans (Nat.le_trans (Nat.le_trans (Nat.le_refl _) p15.size) p23.size) p31.size) p37.size) p53 (fun _ x => x.elim)
      refine ⟨hK55, ?_⟩
      refine awp_run (fuel := 5) [14] hK55 (by kernel_rfl) ?_
      obtain ⟨t56, m57, H⟩ := bind_some H
      refine awp_op 15 (by kernel_rfl) rfl (by kernel_rfl) (owp_callF (by kernel_rfl) (six_Put.calls (I := I30) p53.bd m57) ?_)
      rintro v58 h59 ⟨v62, rfl, rfl, q64⟩
      refine ⟨hK55, ?_⟩
      refine awp_run (fuel := 0) [16, 17, 18, 19] hK55 (by kernel_rfl) ?_
      refine awp_nil (by kernel_rfl) ?_ 0
      refine cwp_ret ?_
      obtain rfl := Option.some.inj H
      show Exists _
      exact ⟨.tuple #[.int .u8 t56.1, v62], by kernel_rfl, I30, (v62), rfl, pt54, q64⟩

/-! shutter/addr.sized -/
def addr_sized.m (x0 : Int) : Option Bool :=
  (if x0 ≥ 1 then (some (decide (x0 ≤ 16383))) else (some false))

set_option maxRecDepth 100000 in
theorem addr_sized.calls {I : Gh} {h : Heap} {x0 : Int} (_hB : Bd I h)  {r : Bool}
    (H : addr_sized.m x0 = some r) :
    Ret Tryd.prog 76 #[.int .i64 x0] h (fun v h' => ∃ _ : Unit, .bool r = v ∧ h = h') := by
  unfold addr_sized.m at H
  refine ret_of (args := [.int .i64 x0]) (rs := [.tmp 2]) (N := 9) Tryd.func76 rfl rfl rfl (Nat.le_of_ble_eq_true rfl) ?_
  refine cwp_seq ?_
  refine cwp_region ?_
  refine lwp_run 1 (by kernel_rfl) ?_
  refine lwp_nil ?_
  refine cwp_seq ?_
  refine cwp_region ?_
  refine lwp_run 1 (by kernel_rfl) ?_
  by_cases c1 : x0 ≥ 1
  · rw [if_pos c1] at H
    refine lwp_op (by kernel_rfl) (owp_pure ((.bool true)) (pr_bool (by kernel_rfl) (decide_eq_true c1)) ?_)
    refine lwp_run 5 (by kernel_rfl) ?_
    refine lwp_nil ?_
    refine cwp_ret ?_
    obtain rfl := Option.some.inj H
    show Exists _
    exact ⟨.bool (decide (x0 ≤ 16383)), by kernel_rfl, (), rfl, rfl⟩
  · rw [if_neg c1] at H
    refine lwp_op (by kernel_rfl) (owp_pure ((.bool false)) (pr_bool (by kernel_rfl) (decide_eq_false c1)) ?_)
    refine lwp_run 5 (by kernel_rfl) ?_
    refine lwp_nil ?_
    refine cwp_ret ?_
    obtain rfl := Option.some.inj H
    show Exists _
    exact ⟨.bool false, by kernel_rfl, (), rfl, rfl⟩

/-! shutter/addr.Long -/
def addr_Long.m (x0 : Int) : Option Bool :=
  (some (decide (x0 > 4096)))

set_option maxRecDepth 100000 in
theorem addr_Long.calls {I : Gh} {h : Heap} {x0 : Int} (_hB : Bd I h)  {r : Bool}
    (H : addr_Long.m x0 = some r) :
    Ret Tryd.prog 77 #[.int .i64 x0] h (fun v h' => ∃ _ : Unit, .bool r = v ∧ h = h') := by
  unfold addr_Long.m at H
  refine ret_of (args := [.int .i64 x0]) (rs := [.tmp 2]) (N := 5) Tryd.func77 rfl rfl rfl (Nat.le_of_ble_eq_true rfl) ?_
  refine cwp_seq ?_
  refine cwp_region ?_
  refine lwp_run 1 (by kernel_rfl) ?_
  refine lwp_nil ?_
  refine cwp_seq ?_
  refine cwp_region ?_
  refine lwp_run 3 (by kernel_rfl) ?_
  refine lwp_nil ?_
  refine cwp_ret ?_
  obtain rfl := Option.some.inj H
  show Exists _
  exact ⟨.bool (decide (x0 > 4096)), by kernel_rfl, (), rfl, rfl⟩

/-! shutter/addr.Put -/
def addr_Put.l1.m (K : Nat) (x0 : Int) : Nat → Int → (List Int) → Option (((List Int) × GoErr) ⊕ ((List Int)))
  | 0, _, _ => none
  | k + 1, x69, x72 => (letJ (α := Bool → Option (((List Int) × GoErr) ⊕ ((List Int)))) (fun (x90 : Bool) => (bif x90 then (if 0 ≤ x69 then (if x69 < ([(shr .i64 x0 6), (bAnd .i64 x0 63)].length : Int) then ((six_Put.m (at_ [(shr .i64 x0 6), (bAnd .i64 x0 63)] x69)).bind fun t100 => (if t100.2 = GoErr.nil then (if x69 < 2 then (addr_Put.l1.m K x0 k (w64 (x69 + 1)) (x72.set x69.toNat t100.1)) else none) else (some (Sum.inl ((List.replicate 2 (0 : Int)), t100.2))))) else none) else none) else (some (Sum.inr x72)))) fun (j93 : Bool → Option (((List Int) × GoErr) ⊕ ((List Int)))) => (if x69 < ([(shr .i64 x0 6), (bAnd .i64 x0 63)].length : Int) then (j93 true) else (j93 false)))
def addr_Put.m (K : Nat) (x0 : Int) (x1 : Int) : Option ((List Int) × GoErr) :=
  (letJ (α := Bool → Option ((List Int) × GoErr)) (fun (x17 : Bool) => (bif x17 then (some ((List.replicate 2 (0 : Int)), (GoErr.no 1))) else (letJ (α := Bool → Option ((List Int) × GoErr)) (fun (x29 : Bool) => (bif x29 then (some ((List.replicate 2 (0 : Int)), (GoErr.no 4))) else ((addr_Long.m x1).bind fun t36 => bif t36 then (some ([(IntKind.u8.wrap ((shr .i64 x0 8))), (IntKind.u8.wrap (x0))], GoErr.nil)) else ((addr_Put.l1.m K x0 K 0 (List.replicate 2 (0 : Int))).bind fun s75 => match s75 with | .inl q => (some q) | .inr x81 => (some (x81, GoErr.nil)))))) fun (j31 : Bool → Option ((List Int) × GoErr)) => (if x0 < 0 then (j31 true) else (if x0 ≥ x1 then (j31 true) else (j31 false)))))) fun (j19 : Bool → Option ((List Int) × GoErr)) => ((addr_sized.m x1).bind fun t8 => bif t8 then (j19 false) else (j19 true)))

set_option maxRecDepth 100000 in
theorem addr_Put.calls {I : Gh} {h : Heap} {K : Nat} {x0 : Int} {x1 : Int} (hB : Bd I h)  {r : ((List Int) × GoErr)}
    (H : addr_Put.m K x0 x1 = some r) :
    Ret Tryd.prog 43 #[.int .i64 x0, .int .i64 x1] h (fun v h' => ∃ (I' : Gh) (v133 : Value), .tuple #[.agg (List.map (Value.int .u8) r.1).toArray, v133] = v ∧ Pst No I h I' h' ∧ List.length r.1 = 2 ∧ ErrV I' h' r.2 v133) := by
  unfold addr_Put.m at H
  refine ret_of2 (args := [.int .i64 x0, .int .i64 x1]) (rs := [.cell 4 75, .tmp 5]) (N := 61) Tryd.func43 rfl rfl rfl (Nat.le_of_ble_eq_true rfl) ?_
  have pt0 : Pst No I h I h := Pst.refl hB
  refine cwp_seq ?_
  refine cwp_region ?_
  refine lwp_op (by kernel_rfl) (owp_alloc (List.map (Value.int .u8) (List.replicate 2 (0 : Int))) (.agg (List.map (Value.int .u8) (List.replicate 2 (0 : Int))).toArray) hB (by kernel_rfl) (by kernel_rfl) ?_)
  intro b1 h2 hc3 p4 o5
  have pt6 := pt0.no p4
  have fr7 : No b1 ∨ h.size ≤ b1 := .inr (Nat.le_trans pt0.size hc3)
  refine lwp_run 1 (by kernel_rfl) ?_
  refine lwp_nil ?_
  refine cwp_seq ?_
  refine cwp_block ?_
  obtain ⟨j19, e131, H⟩ := letJ_some H
  refine cwp_join (fun ρ' h14 => ∃ (x17 : Bool) (I15 : Gh), j19 x17 = some r ∧ Fits [(0, .int .i64 x0), (1, .int .i64 x1), (4, .pointer (some ⟨b1, 0, none⟩)), (11, .bool x17)] ρ' ∧ Pst No I h I15 h14 ∧ OwnB I15 h14 b1 (List.map (Value.int .u8) (List.replicate 2 (0 : Int))) 75) ?_ ?_
  · refine cwp_region ?_
    refine lwp_run 1 (by kernel_rfl) ?_
    obtain ⟨t8, m9, H⟩ := bind_some H
    refine lwp_op (by kernel_rfl) (owp_callF (by kernel_rfl) (addr_sized.calls (I := I) p4.bd m9) ?_)
    rintro v10 h11 ⟨_, rfl, rfl⟩
    cases t8
    · rw [cond_false] at H
      refine lwp_run 2 (by kernel_rfl) ?_
      refine lwp_nil ?_
      exact ⟨true, I, H, ⟨by kernel_rfl, by kernel_rfl, by kernel_rfl, by kernel_rfl, trivial⟩, pt6, o5⟩
    · rw [cond_true] at H
      refine lwp_run 2 (by kernel_rfl) ?_
      refine lwp_nil ?_
      exact ⟨false, I, H, ⟨by kernel_rfl, by kernel_rfl, by kernel_rfl, by kernel_rfl, trivial⟩, pt6, o5⟩
  · clear H
    rintro ρ' h14 ⟨x17, I15, H, hf, pt16, o18⟩
    refine cwp_fits _ hf ?_
    subst e131
    try dsimp only at H
    cases x17
    · rw [cond_false] at H
      refine cwp_false (by kernel_rfl) ?_
      obtain ⟨j31, e130, H⟩ := letJ_some H
      refine cwp_join (fun ρ' h26 => ∃ (x29 : Bool) (I27 : Gh), j31 x29 = some r ∧ Fits [(0, .int .i64 x0), (1, .int .i64 x1), (4, .pointer (some ⟨b1, 0, none⟩)), (17, .bool x29)] ρ' ∧ Pst No I h I27 h26 ∧ OwnB I27 h26 b1 (List.map (Value.int .u8) (List.replicate 2 (0 : Int))) 75) ?_ ?_
      · refine cwp_region ?_
        refine lwp_run 1 (by kernel_rfl) ?_
        by_cases c24 : x0 < 0
        · rw [if_pos c24] at H
          refine lwp_op (by kernel_rfl) (owp_pure ((.bool true)) (pr_bool (by kernel_rfl) (decide_eq_true c24)) ?_)
          refine lwp_run 6 (by kernel_rfl) ?_
          refine lwp_nil ?_
          exact ⟨true, I15, H, ⟨by kernel_rfl, by kernel_rfl, by kernel_rfl, by kernel_rfl, trivial⟩, pt16, o18⟩
        · rw [if_neg c24] at H
          refine lwp_op (by kernel_rfl) (owp_pure ((.bool false)) (pr_bool (by kernel_rfl) (decide_eq_false c24)) ?_)
          refine lwp_run 3 (by kernel_rfl) ?_
          by_cases c25 : x0 ≥ x1
          · rw [if_pos c25] at H
            refine lwp_op (by kernel_rfl) (owp_pure ((.bool true)) (pr_bool (by kernel_rfl) (decide_eq_true c25)) ?_)
            refine lwp_run 2 (by kernel_rfl) ?_
            refine lwp_nil ?_
            exact ⟨true, I15, H, ⟨by kernel_rfl, by kernel_rfl, by kernel_rfl, by kernel_rfl, trivial⟩, pt16, o18⟩
          · rw [if_neg c25] at H
            refine lwp_op (by kernel_rfl) (owp_pure ((.bool false)) (pr_bool (by kernel_rfl) (decide_eq_false c25)) ?_)
            refine lwp_run 2 (by kernel_rfl) ?_
            refine lwp_nil ?_
            exact ⟨false, I15, H, ⟨by kernel_rfl, by kernel_rfl, by kernel_rfl, by kernel_rfl, trivial⟩, pt16, o18⟩
      · clear H
        rintro ρ' h26 ⟨x29, I27, H, hf, pt28, o30⟩
        refine cwp_fits _ hf ?_
        subst e130
        try dsimp only at H
        cases x29
        · rw [cond_false] at H
          refine cwp_false (by kernel_rfl) ?_
          refine cwp_seq ?_
          refine cwp_region ?_
          refine lwp_run 1 (by kernel_rfl) ?_
          obtain ⟨t36, m37, H⟩ := bind_some H
          refine lwp_op (by kernel_rfl) (owp_callF (by kernel_rfl) (addr_Long.calls (I := I27) pt28.bd m37) ?_)
          rintro v38 h39 ⟨_, rfl, rfl⟩
          cases t36
          · rw [cond_false] at H
            refine lwp_run 1 (by kernel_rfl) ?_
            refine lwp_nil ?_
            refine cwp_false (by kernel_rfl) ?_
            refine cwp_skip ?_
            refine cwp_seq ?_
            refine cwp_region ?_
            refine lwp_op (by kernel_rfl) (owp_alloc (List.map (Value.int .u8) (List.replicate 2 (0 : Int))) (.agg (List.map (Value.int .u8) (List.replicate 2 (0 : Int))).toArray) pt28.bd (by kernel_rfl) (by kernel_rfl) ?_)
            intro b46 h47 hc48 p49 o50
            have pt51 := pt28.no p49
            have fr52 : No b46 ∨ h.size ≤ b46 := .inr (Nat.le_trans pt28.size hc48)
            have d53 := ne_new o30.lt hc48
            refine lwp_nil ?_
            refine cwp_seq ?_
            refine cwp_seq ?_
            refine cwp_region ?_
            refine lwp_run 4 (by kernel_rfl) ?_
            refine lwp_op (by kernel_rfl) (owp_buildSlice (e := 3) [.int .i64 (shr .i64 x0 6), .int .i64 (bAnd .i64 x0 63)] 1 (.int .i64 0) p49.bd (by kernel_rfl) (by kernel_rfl) (by kernel_rfl) (by kernel_rfl) (by kernel_rfl) ?_)
            intro b54 h55 hc56 p57 o58
            have pt59 := pt51.no p57
            have w60 := o58.own (l := ([(shr .i64 x0 6), (bAnd .i64 x0 63)] : List Int)) (Reps.int (I := I27) (k := .i64) (l := [(shr .i64 x0 6), (bAnd .i64 x0 63)]))
            have fw60 := some_nw (M := No) (Nat.le_trans pt51.size hc56)
            have f62 := o30.post p49 (fun x => x.elim)
            have d63 := some_ne (ne_new f62.lt hc56)
            have d64 := some_ne (ne_new o50.lt hc56)
            refine lwp_run 2 (by kernel_rfl) ?_
            refine lwp_nil ?_
            refine cwp_block ?_
            have f123 := o30.post p49 (fun x => x.elim)
            have f124 := f123.post p57 (fun x => x.elim)
            have f125 := o50.post p57 (fun x => x.elim)
            obtain ⟨s75, m83, HR84⟩ := bind_some H
            refine cwp_loopE 1 (fun ρ' h76 => ∃ (x81 : List Int) (I77 : Gh), Sum.inr x81 = s75 ∧ Fits [(4, .pointer (some ⟨b1, 0, none⟩)), (6, .pointer (some ⟨b46, 0, none⟩))] ρ' ∧ Pst No I h I77 h76 ∧ OwnB I77 h76 b1 (List.map (Value.int .u8) (List.replicate 2 (0 : Int))) 75 ∧ List.length x81 = 2 ∧ OwnB I77 h76 b46 (List.map (Value.int .u8) x81) 75) ?_ ?_
            · refine cwp_loop (fun k' ρ' h65 => ∃ (x69 : Int) (x72 : List Int) (I66 : Gh), addr_Put.l1.m K x0 k' x69 x72 = some s75 ∧ Fits [(4, .pointer (some ⟨b1, 0, none⟩)), (6, .pointer (some ⟨b46, 0, none⟩)), (40, .slice (some ⟨b54, 0, none⟩) ([(shr .i64 x0 6), (bAnd .i64 x0 63)].length) 2), (41, .int .i64 ([(shr .i64 x0 6), (bAnd .i64 x0 63)].length : Int)), (42, .int .i64 x69)] ρ' ∧ Pst No I h I66 h65 ∧ OwnX (tInt .i64) I66 I66 h65 (some ⟨b54, 0, none⟩) 2 [(shr .i64 x0 6), (bAnd .i64 x0 63)] ∧ OwnB I66 h65 b1 (List.map (Value.int .u8) (List.replicate 2 (0 : Int))) 75 ∧ List.length x72 = 2 ∧ OwnB I66 h65 b46 (List.map (Value.int .u8) x72) 75) K ⟨0, (List.replicate 2 (0 : Int)), I27, m83, ⟨by kernel_rfl, by kernel_rfl, by kernel_rfl, by kernel_rfl, by kernel_rfl, trivial⟩, pt59, w60, f124, (List.length_replicate (n := 2) (a := (0 : Int))), f125⟩ ?_
              clear m83
              rintro k' ρ' h65 ⟨x69, x72, I66, H, hf, pt67, r68, o70, hl71, o73⟩
              cases k' with
              | zero => cases H
              | succ k =>
                rw [addr_Put.l1.m] at H
                refine cwp_fits _ hf ?_
                obtain ⟨j93, e122, H⟩ := letJ_some H
                refine cwp_join (fun ρ' h86 => ∃ (x90 : Bool) (I87 : Gh), j93 x90 = some s75 ∧ Fits [(4, .pointer (some ⟨b1, 0, none⟩)), (6, .pointer (some ⟨b46, 0, none⟩)), (40, .slice (some ⟨b54, 0, none⟩) ([(shr .i64 x0 6), (bAnd .i64 x0 63)].length) 2), (41, .int .i64 ([(shr .i64 x0 6), (bAnd .i64 x0 63)].length : Int)), (42, .int .i64 x69), (43, .bool x90)] ρ' ∧ Pst No I h I87 h86 ∧ OwnX (tInt .i64) I87 I87 h86 (some ⟨b54, 0, none⟩) 2 [(shr .i64 x0 6), (bAnd .i64 x0 63)] ∧ OwnB I87 h86 b1 (List.map (Value.int .u8) (List.replicate 2 (0 : Int))) 75 ∧ OwnB I87 h86 b46 (List.map (Value.int .u8) x72) 75) ?_ ?_
                · refine cwp_region ?_
                  by_cases c85 : x69 < ([(shr .i64 x0 6), (bAnd .i64 x0 63)].length : Int)
                  · rw [if_pos c85] at H
                    refine lwp_op (by kernel_rfl) (owp_pure ((.bool true)) (pr_bool (by kernel_rfl) (decide_eq_true c85)) ?_)
                    refine lwp_nil ?_
                    exact ⟨true, I66, H, ⟨by kernel_rfl, by kernel_rfl, by kernel_rfl, by kernel_rfl, by kernel_rfl, by kernel_rfl, trivial⟩, pt67, r68, o70, o73⟩
                  · rw [if_neg c85] at H
                    refine lwp_op (by kernel_rfl) (owp_pure ((.bool false)) (pr_bool (by kernel_rfl) (decide_eq_false c85)) ?_)
                    refine lwp_nil ?_
                    exact ⟨false, I66, H, ⟨by kernel_rfl, by kernel_rfl, by kernel_rfl, by kernel_rfl, by kernel_rfl, by kernel_rfl, trivial⟩, pt67, r68, o70, o73⟩
                · clear H
                  rintro ρ' h86 ⟨x90, I87, H, hf, pt88, r89, o91, o92⟩
                  refine cwp_fits _ hf ?_
                  subst e122
                  try dsimp only at H
                  refine cwp_seq ?_
                  cases x90
                  · rw [cond_false] at H
                    refine cwp_false (by kernel_rfl) ?_
                    refine cwp_exit ?_
                    obtain rfl := Option.some.inj H
                    show Exists _
                    exact ⟨x72, I87, rfl, ⟨by kernel_rfl, by kernel_rfl, trivial⟩, pt88, o91, hl71, o92⟩
                  · rw [cond_true] at H
                    refine cwp_true (by kernel_rfl) ?_
                    refine cwp_skip ?_
                    refine cwp_seq ?_
                    refine cwp_block ?_
                    refine cwp_seq ?_
                    refine cwp_region ?_
                    obtain ⟨c94, H⟩ := guard_pos H
                    obtain ⟨c95, H⟩ := guard_pos H
                    refine lwp_run 1 (by kernel_rfl) ?_
                    have hs96 := (r89.toSl).isSome c94 c95
                    refine lwp_op (by kernel_rfl) (owp_pure (elemPtr (some ⟨b54, 0, none⟩) (x69.toNat * 1)) (pr_indexElem (e := 3) (r89.toSl) (k := .i64) (by kernel_rfl) (by kernel_rfl) (by kernel_rfl) (by kernel_rfl) c94 c95) ?_)
                    obtain ⟨cs97, hs98, rp99⟩ := (r89.toSl).seg c94 c95
                    obtain rfl := rep_int rp99
                    refine lwp_op (by kernel_rfl) (owp_load (by kernel_rfl) (by kernel_rfl) (seg_cell (f := 0) hs98 rfl) ?_)
                    refine lwp_run 2 (by kernel_rfl) ?_
                    refine lwp_nil ?_
                    refine cwp_seq ?_
                    refine cwp_region ?_
                    refine lwp_run 1 (by kernel_rfl) ?_
                    obtain ⟨t100, m101, H⟩ := bind_some H
                    refine lwp_op (by kernel_rfl) (owp_callF (by kernel_rfl) (six_Put.calls (I := I87) pt88.bd m101) ?_)
                    rintro v102 h103 ⟨v106, rfl, rfl, q108⟩
                    refine lwp_run 5 (by kernel_rfl) ?_
                    refine lwp_nil ?_
                    refine cwp_seq ?_
                    refine cwp_seq ?_
                    refine cwp_region ?_
                    refine lwp_run 1 (by kernel_rfl) ?_
                    rcases q108.cases with ⟨c109, rfl⟩ | ⟨c109, t110, u111, rfl⟩
                    · rw [if_pos c109] at H
                      refine lwp_run 1 (by kernel_rfl) ?_
                      refine lwp_nil ?_
                      refine cwp_false (by kernel_rfl) ?_
                      refine cwp_skip ?_
                      refine cwp_region ?_
                      obtain ⟨c112, H⟩ := guard_pos H
                      refine lwp_run 2 (by kernel_rfl) ?_
                      refine lwp_op (by kernel_rfl) (owp_pure ((elemPtr (some ⟨b46, 0, none⟩) (x69.toNat * 1))) (pr_indexArr (e := 5) (kk := .i64) (n := 2) (by kernel_rfl) (by kernel_rfl) (by kernel_rfl) (by kernel_rfl) c94 c112) ?_)
                      refine lwp_op (by kernel_rfl) (owp_storeArr t100.1 pt88.bd o92 hl71 c94 c112 (by kernel_rfl) (by kernel_rfl) (by kernel_rfl) ?_)
                      intro h113 p114 o115
                      have pt116 := pt88.own p114 (one_nw fr52)
                      refine lwp_nil ?_
                      refine cwp_region ?_
                      refine lwp_run 2 (by kernel_rfl) ?_
                      refine lwp_nil ?_
                      have f100001 := r89.post pt88.bd p114 (one_not o92.no) (dis_one d64)
                      have f100002 := o91.post p114 (fun e => d53 e.symm)
                      show Exists _
                      exact ⟨k, Nat.lt_succ_self _, (w64 (x69 + 1)), (x72.set x69.toNat t100.1), I87, H, ⟨by kernel_rfl, by kernel_rfl, by kernel_rfl, by kernel_rfl, by kernel_rfl, trivial⟩, pt116, f100001, f100002, (len_set hl71), o115⟩
                    · rw [if_neg c109] at H
                      refine lwp_run 1 (by kernel_rfl) ?_
                      refine lwp_nil ?_
                      refine cwp_true (by kernel_rfl) ?_
                      refine cwp_seq ?_
                      refine cwp_region ?_
                      refine lwp_run 2 (by kernel_rfl) ?_
                      refine lwp_op (by kernel_rfl) (owp_storeArrN (l2 := (List.replicate 2 (0 : Int))) pt88.bd o91 (List.length_replicate (n := 2) (a := (0 : Int))) (List.length_replicate (n := 2) (a := (0 : Int))) (by kernel_rfl) (by kernel_rfl) (by kernel_rfl) ?_)
                      intro h117 p118 o119
                      have pt120 := pt88.own p118 (one_nw fr7)
                      refine lwp_run 1 (by kernel_rfl) ?_
                      refine lwp_nil ?_
                      refine cwp_ret ?_
                      obtain rfl := Option.some.inj H
                      obtain rfl := Option.some.inj HR84
                      have f121 := ErrV.up (p118.up pt88.bd (one_not o91.no)) q108
                      show Exists _
                      exact ⟨[.agg (List.map (Value.int .u8) (List.replicate 2 (0 : Int))).toArray, (.iface t110 u111)], (.cons (.agg (by kernel_rfl) (by kernel_rfl) (by kernel_rfl) (o119.arrSeg (List.length_replicate (n := 2) (a := (0 : Int))))) (.cons (.tmp (by kernel_rfl)) .nil)), I87, ((.iface t110 u111)), rfl, pt120, (List.length_replicate (n := 2) (a := (0 : Int))), f121⟩
            · rintro ρ' h76 ⟨x81, I77, rfl, hf, pt78, o79, hl80, o82⟩
              have H := HR84
              try dsimp only at H
              refine cwp_fits _ hf ?_
              refine cwp_seq ?_
              refine cwp_region ?_
              refine lwp_op (by kernel_rfl) (owp_loadN (by kernel_rfl) (by kernel_rfl) (by kernel_rfl) (o82.arrSeg hl80) ?_)
              refine lwp_op (by kernel_rfl) (owp_storeArrN (l2 := x81) pt78.bd o79 (List.length_replicate (n := 2) (a := (0 : Int))) hl80 (by kernel_rfl) (by kernel_rfl) (by kernel_rfl) ?_)
              intro h126 p127 o128
              have pt129 := pt78.own p127 (one_nw fr7)
              refine lwp_run 1 (by kernel_rfl) ?_
              refine lwp_nil ?_
              refine cwp_ret ?_
              obtain rfl := Option.some.inj H
              show Exists _
              exact ⟨[.agg (List.map (Value.int .u8) x81).toArray, .nilIface], (.cons (.agg (by kernel_rfl) (by kernel_rfl) (by kernel_rfl) (o128.arrSeg hl80)) (.cons (.tmp (by kernel_rfl)) .nil)), I77, (.nilIface), rfl, pt129, hl80, (show ErrV I77 h126 GoErr.nil .nilIface from rfl)⟩
          · rw [cond_true] at H
            refine lwp_run 1 (by kernel_rfl) ?_
            refine lwp_nil ?_
            refine cwp_true (by kernel_rfl) ?_
            refine cwp_seq ?_
            refine cwp_region ?_
            refine lwp_run 6 (by kernel_rfl) ?_
            refine lwp_op (by kernel_rfl) (owp_storeArrN (l2 := [(IntKind.u8.wrap ((shr .i64 x0 8))), (IntKind.u8.wrap (x0))]) pt28.bd o30 (List.length_replicate (n := 2) (a := (0 : Int))) rfl (by kernel_rfl) (by kernel_rfl) (by kernel_rfl) ?_)
            intro h42 p43 o44
            have pt45 := pt28.own p43 (one_nw fr7)
            refine lwp_run 1 (by kernel_rfl) ?_
            refine lwp_nil ?_
            refine cwp_ret ?_
            obtain rfl := Option.some.inj H
            show Exists _
            exact ⟨[.agg (List.map (Value.int .u8) [(IntKind.u8.wrap ((shr .i64 x0 8))), (IntKind.u8.wrap (x0))]).toArray, .nilIface], (.cons (.agg (by kernel_rfl) (by kernel_rfl) (by kernel_rfl) (o44.arrSeg rfl)) (.cons (.tmp (by kernel_rfl)) .nil)), I27, (.nilIface), rfl, pt45, rfl, (show ErrV I27 h42 GoErr.nil .nilIface from rfl)⟩
        · rw [cond_true] at H
          refine cwp_true (by kernel_rfl) ?_
          refine cwp_seq ?_
          refine cwp_region ?_
          refine lwp_run 2 (by kernel_rfl) ?_
          refine lwp_op (by kernel_rfl) (owp_storeArrN (l2 := (List.replicate 2 (0 : Int))) pt28.bd o30 (List.length_replicate (n := 2) (a := (0 : Int))) (List.length_replicate (n := 2) (a := (0 : Int))) (by kernel_rfl) (by kernel_rfl) (by kernel_rfl) ?_)
          intro h32 p33 o34
          have pt35 := pt28.own p33 (one_nw fr7)
          refine lwp_run 1 (by kernel_rfl) ?_
          refine lwp_nil ?_
          refine cwp_ret ?_
          obtain rfl := Option.some.inj H
          show Exists _
          exact ⟨[.agg (List.map (Value.int .u8) (List.replicate 2 (0 : Int))).toArray, .iface 78 (.int .i64 4)], (.cons (.agg (by kernel_rfl) (by kernel_rfl) (by kernel_rfl) (o34.arrSeg (List.length_replicate (n := 2) (a := (0 : Int))))) (.cons (.tmp (by kernel_rfl)) .nil)), I27, (.iface 78 (.int .i64 4)), rfl, pt35, (List.length_replicate (n := 2) (a := (0 : Int))), (show ErrV I27 h32 (GoErr.no 4) (.iface 78 (.int .i64 4)) from rfl)⟩
    · rw [cond_true] at H
      refine cwp_true (by kernel_rfl) ?_
      refine cwp_seq ?_
      refine cwp_region ?_
      refine lwp_run 2 (by kernel_rfl) ?_
      refine lwp_op (by kernel_rfl) (owp_storeArrN (l2 := (List.replicate 2 (0 : Int))) pt16.bd o18 (List.length_replicate (n := 2) (a := (0 : Int))) (List.length_replicate (n := 2) (a := (0 : Int))) (by kernel_rfl) (by kernel_rfl) (by kernel_rfl) ?_)
      intro h20 p21 o22
      have pt23 := pt16.own p21 (one_nw fr7)
      refine lwp_run 1 (by kernel_rfl) ?_
      refine lwp_nil ?_
      refine cwp_ret ?_
      obtain rfl := Option.some.inj H
      show Exists _
      exact ⟨[.agg (List.map (Value.int .u8) (List.replicate 2 (0 : Int))).toArray, .iface 78 (.int .i64 1)], (.cons (.agg (by kernel_rfl) (by kernel_rfl) (by kernel_rfl) (o22.arrSeg (List.length_replicate (n := 2) (a := (0 : Int))))) (.cons (.tmp (by kernel_rfl)) .nil)), I15, (.iface 78 (.int .i64 1)), rfl, pt23, (List.length_replicate (n := 2) (a := (0 : Int))), (show ErrV I15 h20 (GoErr.no 1) (.iface 78 (.int .i64 1)) from rfl)⟩

/-! shutter/order.has -/
def order_has.m (x0 : Int) : Option (Bool × Bool × Bool × Bool) :=
  (if x0 = 1 then (some (true, false, false, false)) else (if x0 = 2 then (some (false, true, false, false)) else (if x0 = 6 then (some (false, false, true, true)) else (if x0 = 3 then (some (false, false, true, false)) else (if x0 = 7 then (some (false, false, true, false)) else (some (false, false, false, false)))))))

set_option maxRecDepth 100000 in
theorem order_has.calls {I : Gh} {h : Heap} {x0 : Int} (_hB : Bd I h)  {r : (Bool × Bool × Bool × Bool)}
    (H : order_has.m x0 = some r) :
    Ret Tryd.prog 44 #[.int .i64 x0] h (fun v h' => ∃ _ : Unit, .tuple #[.bool r.1, .bool r.2.1, .bool r.2.2.1, .bool r.2.2.2] = v ∧ h = h') := by
  unfold order_has.m at H
  refine ret_of (args := [.int .i64 x0]) (rs := [.tmp 2, .tmp 3, .tmp 4, .tmp 5]) (N := 20) Tryd.func44 rfl rfl rfl (Nat.le_of_ble_eq_true rfl) ?_
  refine cwp_seq ?_
  refine cwp_region ?_
  refine lwp_run 4 (by kernel_rfl) ?_
  refine lwp_nil ?_
  refine cwp_seq ?_
  refine cwp_seq ?_
  refine cwp_region ?_
  refine lwp_run 1 (by kernel_rfl) ?_
  refine lwp_nil ?_
  refine cwp_block ?_
  refine cwp_seq ?_
  refine cwp_block ?_
  refine cwp_seq ?_
  refine cwp_block ?_
  refine cwp_seq ?_
  refine cwp_block ?_
  refine cwp_seq ?_
  refine cwp_block ?_
  refine cwp_seq ?_
  refine cwp_seq ?_
  refine cwp_seq ?_
  refine cwp_region ?_
  by_cases c1 : x0 = 1
  · rw [if_pos c1] at H
    refine lwp_op (by kernel_rfl) (owp_pure ((.bool true)) (pr_bool (by kernel_rfl) (eqT c1)) ?_)
    refine lwp_run 1 (by kernel_rfl) ?_
    refine lwp_nil ?_
    refine cwp_true (by kernel_rfl) ?_
    refine cwp_exit ?_
    refine cwp_seq ?_
    refine cwp_region ?_
    refine lwp_run 1 (by kernel_rfl) ?_
    refine lwp_nil ?_
    refine cwp_exit ?_
    refine cwp_seq ?_
    refine cwp_region ?_
    refine lwp_run 8 (by kernel_rfl) ?_
    refine lwp_nil ?_
    refine cwp_ret ?_
    obtain rfl := Option.some.inj H
    show Exists _
    exact ⟨.tuple #[.bool true, .bool false, .bool false, .bool false], by kernel_rfl, (), rfl, rfl⟩
  · rw [if_neg c1] at H
    refine lwp_op (by kernel_rfl) (owp_pure ((.bool false)) (pr_bool (by kernel_rfl) (eqF c1)) ?_)
    refine lwp_run 1 (by kernel_rfl) ?_
    refine lwp_nil ?_
    refine cwp_false (by kernel_rfl) ?_
    refine cwp_skip ?_
    refine cwp_seq ?_
    refine cwp_seq ?_
    refine cwp_region ?_
    by_cases c2 : x0 = 2
    · rw [if_pos c2] at H
      refine lwp_op (by kernel_rfl) (owp_pure ((.bool true)) (pr_bool (by kernel_rfl) (eqT c2)) ?_)
      refine lwp_run 1 (by kernel_rfl) ?_
      refine lwp_nil ?_
      refine cwp_true (by kernel_rfl) ?_
      refine cwp_exit ?_
      refine cwp_seq ?_
      refine cwp_region ?_
      refine lwp_run 1 (by kernel_rfl) ?_
      refine lwp_nil ?_
      refine cwp_exit ?_
      refine cwp_seq ?_
      refine cwp_region ?_
      refine lwp_run 8 (by kernel_rfl) ?_
      refine lwp_nil ?_
      refine cwp_ret ?_
      obtain rfl := Option.some.inj H
      show Exists _
      exact ⟨.tuple #[.bool false, .bool true, .bool false, .bool false], by kernel_rfl, (), rfl, rfl⟩
    · rw [if_neg c2] at H
      refine lwp_op (by kernel_rfl) (owp_pure ((.bool false)) (pr_bool (by kernel_rfl) (eqF c2)) ?_)
      refine lwp_run 1 (by kernel_rfl) ?_
      refine lwp_nil ?_
      refine cwp_false (by kernel_rfl) ?_
      refine cwp_skip ?_
      refine cwp_seq ?_
      refine cwp_seq ?_
      refine cwp_region ?_
      by_cases c3 : x0 = 6
      · rw [if_pos c3] at H
        refine lwp_op (by kernel_rfl) (owp_pure ((.bool true)) (pr_bool (by kernel_rfl) (eqT c3)) ?_)
        refine lwp_run 1 (by kernel_rfl) ?_
        refine lwp_nil ?_
        refine cwp_true (by kernel_rfl) ?_
        refine cwp_exit ?_
        refine cwp_region ?_
        refine lwp_run 1 (by kernel_rfl) ?_
        refine lwp_nil ?_
        refine cwp_seq ?_
        refine cwp_region ?_
        refine lwp_run 1 (by kernel_rfl) ?_
        refine lwp_nil ?_
        refine cwp_exit ?_
        refine cwp_seq ?_
        refine cwp_region ?_
        refine lwp_run 8 (by kernel_rfl) ?_
        refine lwp_nil ?_
        refine cwp_ret ?_
        obtain rfl := Option.some.inj H
        show Exists _
        exact ⟨.tuple #[.bool false, .bool false, .bool true, .bool true], by kernel_rfl, (), rfl, rfl⟩
      · rw [if_neg c3] at H
        refine lwp_op (by kernel_rfl) (owp_pure ((.bool false)) (pr_bool (by kernel_rfl) (eqF c3)) ?_)
        refine lwp_run 1 (by kernel_rfl) ?_
        refine lwp_nil ?_
        refine cwp_false (by kernel_rfl) ?_
        refine cwp_skip ?_
        refine cwp_seq ?_
        refine cwp_seq ?_
        refine cwp_region ?_
        by_cases c4 : x0 = 3
        · rw [if_pos c4] at H
          refine lwp_op (by kernel_rfl) (owp_pure ((.bool true)) (pr_bool (by kernel_rfl) (eqT c4)) ?_)
          refine lwp_run 1 (by kernel_rfl) ?_
          refine lwp_nil ?_
          refine cwp_true (by kernel_rfl) ?_
          refine cwp_skip ?_
          refine cwp_true (by kernel_rfl) ?_
          refine cwp_exit ?_
          refine cwp_seq ?_
          refine cwp_region ?_
          refine lwp_run 1 (by kernel_rfl) ?_
          refine lwp_nil ?_
          refine cwp_exit ?_
          refine cwp_seq ?_
          refine cwp_region ?_
          refine lwp_run 8 (by kernel_rfl) ?_
          refine lwp_nil ?_
          refine cwp_ret ?_
          obtain rfl := Option.some.inj H
          show Exists _
          exact ⟨.tuple #[.bool false, .bool false, .bool true, .bool false], by kernel_rfl, (), rfl, rfl⟩
        · rw [if_neg c4] at H
          refine lwp_op (by kernel_rfl) (owp_pure ((.bool false)) (pr_bool (by kernel_rfl) (eqF c4)) ?_)
          refine lwp_run 1 (by kernel_rfl) ?_
          refine lwp_nil ?_
          refine cwp_false (by kernel_rfl) ?_
          refine cwp_region ?_
          by_cases c5 : x0 = 7
          · rw [if_pos c5] at H
            refine lwp_op (by kernel_rfl) (owp_pure ((.bool true)) (pr_bool (by kernel_rfl) (eqT c5)) ?_)
            refine lwp_run 1 (by kernel_rfl) ?_
            refine lwp_nil ?_
            refine cwp_true (by kernel_rfl) ?_
            refine cwp_exit ?_
            refine cwp_seq ?_
            refine cwp_region ?_
            refine lwp_run 1 (by kernel_rfl) ?_
            refine lwp_nil ?_
            refine cwp_exit ?_
            refine cwp_seq ?_
            refine cwp_region ?_
            refine lwp_run 8 (by kernel_rfl) ?_
            refine lwp_nil ?_
            refine cwp_ret ?_
            obtain rfl := Option.some.inj H
            show Exists _
            exact ⟨.tuple #[.bool false, .bool false, .bool true, .bool false], by kernel_rfl, (), rfl, rfl⟩
          · rw [if_neg c5] at H
            refine lwp_op (by kernel_rfl) (owp_pure ((.bool false)) (pr_bool (by kernel_rfl) (eqF c5)) ?_)
            refine lwp_run 1 (by kernel_rfl) ?_
            refine lwp_nil ?_
            refine cwp_false (by kernel_rfl) ?_
            refine cwp_skip ?_
            refine cwp_exit ?_
            refine cwp_seq ?_
            refine cwp_region ?_
            refine lwp_run 8 (by kernel_rfl) ?_
            refine lwp_nil ?_
            refine cwp_ret ?_
            obtain rfl := Option.some.inj H
            show Exists _
            exact ⟨.tuple #[.bool false, .bool false, .bool false, .bool false], by kernel_rfl, (), rfl, rfl⟩

/-! shutter/attr.Char -/
def attr_Char.m (x0 : Int) : Option Bool :=
  (if x0 = 0 then (some true) else (if x0 = 28 then (some true) else (if x0 = 30 then (some true) else (if x0 ≥ 64 then (some (x0 != 255)) else (some false)))))

set_option maxRecDepth 100000 in
theorem attr_Char.calls {I : Gh} {h : Heap} {x0 : Int} (_hB : Bd I h)  {r : Bool}
    (H : attr_Char.m x0 = some r) :
    Ret Tryd.prog 46 #[.int .u8 x0] h (fun v h' => ∃ _ : Unit, .bool r = v ∧ h = h') := by
  unfold attr_Char.m at H
  refine ret_of (args := [.int .u8 x0]) (rs := [.tmp 2]) (N := 15) Tryd.func46 rfl rfl rfl (Nat.le_of_ble_eq_true rfl) ?_
  refine cwp_seq ?_
  refine cwp_region ?_
  refine lwp_run 1 (by kernel_rfl) ?_
  refine lwp_nil ?_
  refine cwp_seq ?_
  refine cwp_seq ?_
  refine cwp_region ?_
  refine lwp_run 1 (by kernel_rfl) ?_
  refine lwp_nil ?_
  refine cwp_block ?_
  refine cwp_seq ?_
  refine cwp_block ?_
  refine cwp_block ?_
  refine cwp_seq ?_
  refine cwp_seq ?_
  refine cwp_seq ?_
  refine cwp_region ?_
  by_cases c1 : x0 = 0
  · rw [if_pos c1] at H
    refine lwp_op (by kernel_rfl) (owp_pure ((.bool true)) (pr_bool (by kernel_rfl) (eqT c1)) ?_)
    refine lwp_run 1 (by kernel_rfl) ?_
    refine lwp_nil ?_
    refine cwp_true (by kernel_rfl) ?_
    refine cwp_exit ?_
    refine cwp_seq ?_
    refine cwp_seq ?_
    refine cwp_region ?_
    refine lwp_run 1 (by kernel_rfl) ?_
    refine lwp_nil ?_
    refine cwp_ret ?_
    obtain rfl := Option.some.inj H
    show Exists _
    exact ⟨.bool true, by kernel_rfl, (), rfl, rfl⟩
  · rw [if_neg c1] at H
    refine lwp_op (by kernel_rfl) (owp_pure ((.bool false)) (pr_bool (by kernel_rfl) (eqF c1)) ?_)
    refine lwp_run 1 (by kernel_rfl) ?_
    refine lwp_nil ?_
    refine cwp_false (by kernel_rfl) ?_
    refine cwp_skip ?_
    refine cwp_seq ?_
    refine cwp_seq ?_
    refine cwp_region ?_
    by_cases c2 : x0 = 28
    · rw [if_pos c2] at H
      refine lwp_op (by kernel_rfl) (owp_pure ((.bool true)) (pr_bool (by kernel_rfl) (eqT c2)) ?_)
      refine lwp_run 1 (by kernel_rfl) ?_
      refine lwp_nil ?_
      refine cwp_true (by kernel_rfl) ?_
      refine cwp_skip ?_
      refine cwp_true (by kernel_rfl) ?_
      refine cwp_exit ?_
      refine cwp_seq ?_
      refine cwp_seq ?_
      refine cwp_region ?_
      refine lwp_run 1 (by kernel_rfl) ?_
      refine lwp_nil ?_
      refine cwp_ret ?_
      obtain rfl := Option.some.inj H
      show Exists _
      exact ⟨.bool true, by kernel_rfl, (), rfl, rfl⟩
    · rw [if_neg c2] at H
      refine lwp_op (by kernel_rfl) (owp_pure ((.bool false)) (pr_bool (by kernel_rfl) (eqF c2)) ?_)
      refine lwp_run 1 (by kernel_rfl) ?_
      refine lwp_nil ?_
      refine cwp_false (by kernel_rfl) ?_
      refine cwp_region ?_
      by_cases c3 : x0 = 30
      · rw [if_pos c3] at H
        refine lwp_op (by kernel_rfl) (owp_pure ((.bool true)) (pr_bool (by kernel_rfl) (eqT c3)) ?_)
        refine lwp_run 1 (by kernel_rfl) ?_
        refine lwp_nil ?_
        refine cwp_true (by kernel_rfl) ?_
        refine cwp_exit ?_
        refine cwp_seq ?_
        refine cwp_seq ?_
        refine cwp_region ?_
        refine lwp_run 1 (by kernel_rfl) ?_
        refine lwp_nil ?_
        refine cwp_ret ?_
        obtain rfl := Option.some.inj H
        show Exists _
        exact ⟨.bool true, by kernel_rfl, (), rfl, rfl⟩
      · rw [if_neg c3] at H
        refine lwp_op (by kernel_rfl) (owp_pure ((.bool false)) (pr_bool (by kernel_rfl) (eqF c3)) ?_)
        refine lwp_run 1 (by kernel_rfl) ?_
        refine lwp_nil ?_
        refine cwp_false (by kernel_rfl) ?_
        refine cwp_skip ?_
        refine cwp_exit ?_
        refine cwp_seq ?_
        refine cwp_region ?_
        refine lwp_run 1 (by kernel_rfl) ?_
        by_cases c4 : x0 ≥ 64
        · rw [if_pos c4] at H
          refine lwp_op (by kernel_rfl) (owp_pure ((.bool true)) (pr_bool (by kernel_rfl) (decide_eq_true c4)) ?_)
          refine lwp_run 5 (by kernel_rfl) ?_
          refine lwp_nil ?_
          refine cwp_ret ?_
          obtain rfl := Option.some.inj H
          show Exists _
          exact ⟨.bool (x0 != 255), by kernel_rfl, (), rfl, rfl⟩
        · rw [if_neg c4] at H
          refine lwp_op (by kernel_rfl) (owp_pure ((.bool false)) (pr_bool (by kernel_rfl) (decide_eq_false c4)) ?_)
          refine lwp_run 5 (by kernel_rfl) ?_
          refine lwp_nil ?_
          refine cwp_ret ?_
          obtain rfl := Option.some.inj H
          show Exists _
          exact ⟨.bool false, by kernel_rfl, (), rfl, rfl⟩

/-! shutter/order.Right$1 -/
def order_Right_1.m (x0 : Int) : Option Bool :=
  ((attr_Char.m x0).bind fun t1 => (some (!t1)))

set_option maxRecDepth 100000 in
theorem order_Right_1.calls {I : Gh} {h : Heap} {x0 : Int} (hB : Bd I h)  {r : Bool}
    (H : order_Right_1.m x0 = some r) :
    Ret Tryd.prog 45 #[.int .u8 x0] h (fun v h' => ∃ _ : Unit, .bool r = v ∧ h = h') := by
  unfold order_Right_1.m at H
  refine ret_of (args := [.int .u8 x0]) (rs := [.tmp 2]) (N := 6) Tryd.func45 rfl rfl rfl (Nat.le_of_ble_eq_true rfl) ?_
  refine cwp_seq ?_
  refine cwp_region ?_
  refine lwp_run 1 (by kernel_rfl) ?_
  refine lwp_nil ?_
  refine cwp_seq ?_
  refine cwp_region ?_
  refine lwp_run 1 (by kernel_rfl) ?_
  obtain ⟨t1, m2, H⟩ := bind_some H
  refine lwp_op (by kernel_rfl) (owp_callF (by kernel_rfl) (attr_Char.calls (I := I) hB m2) ?_)
  rintro v3 h4 ⟨_, rfl, rfl⟩
  refine lwp_run 2 (by kernel_rfl) ?_
  refine lwp_nil ?_
  refine cwp_ret ?_
  obtain rfl := Option.some.inj H
  show Exists _
  exact ⟨.bool (!t1), by kernel_rfl, (), rfl, rfl⟩

/-! slices.IndexFunc[[]byte,byte] -/
def slices_IndexFunc_bytes__order_Right_1.l1.m (K : Nat) (x0 : (List Int)) : Nat → Int → Option (Int ⊕ (Unit))
  | 0, _ => none
  | k + 1, x8 => (letJ (α := Bool → Option (Int ⊕ (Unit))) (fun (x20 : Bool) => (bif x20 then (if 0 ≤ x8 then (if x8 < (x0.length : Int) then ((order_Right_1.m (at_ x0 x8)).bind fun t28 => bif t28 then (some (Sum.inl x8)) else (slices_IndexFunc_bytes__order_Right_1.l1.m K x0 k (w64 (x8 + 1)))) else none) else none) else (some (Sum.inr ())))) fun (j21 : Bool → Option (Int ⊕ (Unit))) => (if x8 < (x0.length : Int) then (j21 true) else (j21 false)))
def slices_IndexFunc_bytes__order_Right_1.m (K : Nat) (x0 : (List Int)) : Option Int :=
  ((slices_IndexFunc_bytes__order_Right_1.l1.m K x0 K 0).bind fun s10 => match s10 with | .inl q => (some q) | .inr _ => (some (-1)))

set_option maxRecDepth 100000 in
theorem slices_IndexFunc_bytes__order_Right_1.calls {I : Gh} {h : Heap} {K : Nat} {x0 : List Int} {a1 : Option Addr} {c2 : Nat} (hB : Bd I h) (r4 : Rd (tInt .u8) I h a1 c2 x0) {r : Int}
    (H : slices_IndexFunc_bytes__order_Right_1.m K x0 = some r) :
    Ret Tryd.prog 78 #[.slice a1 x0.length c2, .func (.func 45) #[] #[]] h (fun v h' => ∃ _ : Unit, .int .i64 r = v ∧ h = h') := by
  unfold slices_IndexFunc_bytes__order_Right_1.m at H
  refine ret_of (args := [.slice a1 x0.length c2, .func (.func 45) #[] #[]]) (rs := [.tmp 4]) (N := 19) Tryd.func78 rfl rfl rfl (Nat.le_of_ble_eq_true rfl) ?_
  refine cwp_seq ?_
  refine cwp_region ?_
  refine lwp_run 1 (by kernel_rfl) ?_
  refine lwp_nil ?_
  refine cwp_seq ?_
  refine cwp_seq ?_
  refine cwp_region ?_
  refine lwp_run 3 (by kernel_rfl) ?_
  refine lwp_nil ?_
  refine cwp_block ?_
  obtain ⟨s10, m14, HR15⟩ := bind_some H
  refine cwp_loopE 0 (fun ρ' h11 => ∃ (_ : Unit), Sum.inr () = s10 ∧ Fits [] ρ' ∧ h = h11) ?_ ?_
  · refine cwp_loop (fun k' ρ' h5 => ∃ (x8 : Int) (_ : Unit), slices_IndexFunc_bytes__order_Right_1.l1.m K x0 k' x8 = some s10 ∧ Fits [(0, .slice a1 x0.length c2), (1, .func (.func 45) #[] #[]), (7, .int .i64 (x0.length : Int)), (8, .int .i64 x8)] ρ' ∧ h = h5) K ⟨0, (), m14, ⟨by kernel_rfl, by kernel_rfl, by kernel_rfl, by kernel_rfl, trivial⟩, rfl⟩ ?_
    clear m14
    rintro k' ρ' h5 ⟨x8, _, H, hf, rfl⟩
    cases k' with
    | zero => cases H
    | succ k =>
      rw [slices_IndexFunc_bytes__order_Right_1.l1.m] at H
      refine cwp_fits _ hf ?_
      obtain ⟨j21, e34, H⟩ := letJ_some H
      refine cwp_join (fun ρ' h17 => ∃ (x20 : Bool) (_ : Unit), j21 x20 = some s10 ∧ Fits [(0, .slice a1 x0.length c2), (1, .func (.func 45) #[] #[]), (7, .int .i64 (x0.length : Int)), (8, .int .i64 x8), (9, .bool x20)] ρ' ∧ h = h17) ?_ ?_
      · refine cwp_region ?_
        by_cases c16 : x8 < (x0.length : Int)
        · rw [if_pos c16] at H
          refine lwp_op (by kernel_rfl) (owp_pure ((.bool true)) (pr_bool (by kernel_rfl) (decide_eq_true c16)) ?_)
          refine lwp_nil ?_
          exact ⟨true, (), H, ⟨by kernel_rfl, by kernel_rfl, by kernel_rfl, by kernel_rfl, by kernel_rfl, trivial⟩, rfl⟩
        · rw [if_neg c16] at H
          refine lwp_op (by kernel_rfl) (owp_pure ((.bool false)) (pr_bool (by kernel_rfl) (decide_eq_false c16)) ?_)
          refine lwp_nil ?_
          exact ⟨false, (), H, ⟨by kernel_rfl, by kernel_rfl, by kernel_rfl, by kernel_rfl, by kernel_rfl, trivial⟩, rfl⟩
      · clear H
        rintro ρ' h17 ⟨x20, _, H, hf, rfl⟩
        refine cwp_fits _ hf ?_
        subst e34
        try dsimp only at H
        refine cwp_seq ?_
        cases x20
        · rw [cond_false] at H
          refine cwp_false (by kernel_rfl) ?_
          refine cwp_exit ?_
          obtain rfl := Option.some.inj H
          show Exists _
          exact ⟨(), rfl, trivial, rfl⟩
        · rw [cond_true] at H
          refine cwp_true (by kernel_rfl) ?_
          refine cwp_skip ?_
          refine cwp_seq ?_
          refine cwp_block ?_
          refine cwp_seq ?_
          refine cwp_region ?_
          refine lwp_run 2 (by kernel_rfl) ?_
          refine lwp_nil ?_
          refine cwp_seq ?_
          refine cwp_region ?_
          obtain ⟨c22, H⟩ := guard_pos H
          obtain ⟨c23, H⟩ := guard_pos H
          refine lwp_run 3 (by kernel_rfl) ?_
          have hs24 := (r4.toSl).isSome c22 c23
          refine lwp_op (by kernel_rfl) (owp_pure (elemPtr a1 (x8.toNat * 1)) (pr_indexElem (e := 5) (r4.toSl) (k := .i64) (by kernel_rfl) (by kernel_rfl) (by kernel_rfl) (by kernel_rfl) c22 c23) ?_)
          obtain ⟨cs25, hs26, rp27⟩ := (r4.toSl).seg c22 c23
          obtain rfl := rep_int rp27
          refine lwp_op (by kernel_rfl) (owp_load (by kernel_rfl) (by kernel_rfl) (seg_cell (f := 0) hs26 rfl) ?_)
          obtain ⟨t28, m29, H⟩ := bind_some H
          refine lwp_op (by kernel_rfl) (owp_callF (by kernel_rfl) (order_Right_1.calls (I := I) hB m29) ?_)
          rintro v30 h31 ⟨_, rfl, rfl⟩
          cases t28
          · rw [cond_false] at H
            refine lwp_nil ?_
            refine cwp_false (by kernel_rfl) ?_
            refine cwp_skip ?_
            refine cwp_region ?_
            refine lwp_run 2 (by kernel_rfl) ?_
            refine lwp_nil ?_
            show Exists _
            exact ⟨k, Nat.lt_succ_self _, (w64 (x8 + 1)), (), H, ⟨by kernel_rfl, by kernel_rfl, by kernel_rfl, by kernel_rfl, trivial⟩, rfl⟩
          · rw [cond_true] at H
            refine lwp_nil ?_
            refine cwp_true (by kernel_rfl) ?_
            refine cwp_seq ?_
            refine cwp_region ?_
            refine lwp_run 2 (by kernel_rfl) ?_
            refine lwp_nil ?_
            refine cwp_ret ?_
            obtain rfl := Option.some.inj H
            obtain rfl := Option.some.inj HR15
            show Exists _
            exact ⟨.int .i64 x8, by kernel_rfl, (), rfl, rfl⟩
  · rintro ρ' h11 ⟨_, rfl, hf, rfl⟩
    have H := HR15
    try dsimp only at H
    refine cwp_fits _ hf ?_
    refine cwp_seq ?_
    refine cwp_region ?_
    refine lwp_run 1 (by kernel_rfl) ?_
    refine lwp_nil ?_
    refine cwp_ret ?_
    obtain rfl := Option.some.inj H
    show Exists _
    exact ⟨.int .i64 (-1), by kernel_rfl, (), rfl, rfl⟩

/-! slices.ContainsFunc[[]byte,byte] -/
def slices_ContainsFunc_bytes__order_Right_1.m (K : Nat) (x0 : (List Int)) : Option Bool :=
  ((slices_IndexFunc_bytes__order_Right_1.m K x0).bind fun t5 => (some (decide (t5 ≥ 0))))

set_option maxRecDepth 100000 in
theorem slices_ContainsFunc_bytes__order_Right_1.calls {I : Gh} {h : Heap} {K : Nat} {x0 : List Int} {a1 : Option Addr} {c2 : Nat} (hB : Bd I h) (r4 : Rd (tInt .u8) I h a1 c2 x0) {r : Bool}
    (H : slices_ContainsFunc_bytes__order_Right_1.m K x0 = some r) :
    Ret Tryd.prog 47 #[.slice a1 x0.length c2, .func (.func 45) #[] #[]] h (fun v h' => ∃ (I' : Gh), .bool r = v ∧ Pst No I h I' h') := by
  unfold slices_ContainsFunc_bytes__order_Right_1.m at H
  refine ret_of (args := [.slice a1 x0.length c2, .func (.func 45) #[] #[]]) (rs := [.tmp 4]) (N := 9) Tryd.func47 rfl rfl rfl (Nat.le_of_ble_eq_true rfl) ?_
  have pt0 : Pst No I h I h := Pst.refl hB
  refine cwp_seq ?_
  refine cwp_region ?_
  refine lwp_run 1 (by kernel_rfl) ?_
  refine lwp_nil ?_
  refine cwp_seq ?_
  refine cwp_region ?_
  refine lwp_run 2 (by kernel_rfl) ?_
  obtain ⟨t5, m6, H⟩ := bind_some H
  refine lwp_op (by kernel_rfl) (owp_callF (by kernel_rfl) (slices_IndexFunc_bytes__order_Right_1.calls (I := I) hB r4 m6) ?_)
  rintro v7 h8 ⟨_, rfl, rfl⟩
  refine lwp_run 2 (by kernel_rfl) ?_
  refine lwp_nil ?_
  refine cwp_ret ?_
  obtain rfl := Option.some.inj H
  show Exists _
  exact ⟨.bool (decide (t5 ≥ 0)), by kernel_rfl, I, rfl, pt0⟩

end Go.Proofs.YtociikgdocjfnaaDoor.Sx
