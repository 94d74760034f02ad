/- Printed walks, part 0: each function's model, and that the code comes to it. -/
import Derived.Test.YtlomgckbmdjmhaaDoorProg
import Derived.Test.YtlomgckbmdjmhaaDoorSxF
namespace Go.Proofs.YtlomgckbmdjmhaaDoor.Sx
open Go

structure api_Entry where
  Addr : Int
  Text : (List Int)
  deriving DecidableEq, Inhabited

def t_api_Entry : Ty api_Entry where
  size := 2
  rep I h cs x := ∃ a_1, ∃ c_1, cs = [.int .i64 x.Addr, .slice a_1 x.Text.length c_1] ∧ Rd (tInt .u8) I h a_1 c_1 x.Text
  len := by rintro _ _ _ _ ⟨_, _, rfl, _⟩; rfl
  one := by
    rintro _ _ _ _ ⟨e0, e1, rfl, q0⟩ v hv
    simp only [List.mem_cons, List.not_mem_nil, or_false] at hv
    rcases hv with rfl | rfl
    · exact rfl
    · exact rfl
  up := by rintro _ _ _ _ _ _ u ⟨e0, e1, rfl, q0⟩; exact ⟨e0, e1, rfl, q0.up u⟩
theorem t_api_Entry.open_ {I : Gh} {h : Heap} {cs : List Value} {x : api_Entry} (r : t_api_Entry.rep I h cs x) : ∃ a_1, ∃ c_1, cs = [.int .i64 x.Addr, .slice a_1 x.Text.length c_1] ∧ Rd (tInt .u8) I h a_1 c_1 x.Text := r

structure api_In where
  Aid : Int
  Cursor : Int
  Fields : (List api_Entry)
  deriving DecidableEq, Inhabited

def t_api_In : Ty api_In where
  size := 3
  rep I h cs x := ∃ a_2, ∃ c_2, cs = [.int .u8 x.Aid, .int .i64 x.Cursor, .slice a_2 x.Fields.length c_2] ∧ Rd t_api_Entry I h a_2 c_2 x.Fields
  len := by rintro _ _ _ _ ⟨_, _, rfl, _⟩; rfl
  one := by
    rintro _ _ _ _ ⟨e0, e1, rfl, q0⟩ v hv
    simp only [List.mem_cons, List.not_mem_nil, or_false] at hv
    rcases hv with rfl | rfl | rfl
    · exact rfl
    · exact rfl
    · exact rfl
  up := by rintro _ _ _ _ _ _ u ⟨e0, e1, rfl, q0⟩; exact ⟨e0, e1, rfl, q0.up u⟩
theorem t_api_In.open_ {I : Gh} {h : Heap} {cs : List Value} {x : api_In} (r : t_api_In.rep I h cs x) : ∃ a_2, ∃ c_2, cs = [.int .u8 x.Aid, .int .i64 x.Cursor, .slice a_2 x.Fields.length c_2] ∧ Rd t_api_Entry I h a_2 c_2 x.Fields := r

structure bytes_Cursor where
  b' : (List Int)
  at' : Int
  err' : GoErr
  deriving DecidableEq, Inhabited

def t_bytes_Cursor : Ty bytes_Cursor where
  size := 3
  rep I h cs x := ∃ a_0, ∃ c_0, ∃ v_2, cs = [.slice a_0 x.b'.length c_0, .int .i64 x.at', v_2] ∧ Rd (tInt .u8) I h a_0 c_0 x.b' ∧ ErrV I h x.err' v_2
  len := by rintro _ _ _ _ ⟨_, _, _, rfl, _, _⟩; rfl
  one := by
    rintro _ _ _ _ ⟨e0, e1, e2, rfl, q0, q1⟩ v hv
    simp only [List.mem_cons, List.not_mem_nil, or_false] at hv
    rcases hv with rfl | rfl | rfl
    · exact rfl
    · exact rfl
    · exact q1.one
  up := by rintro _ _ _ _ _ _ u ⟨e0, e1, e2, rfl, q0, q1⟩; exact ⟨e0, e1, e2, rfl, q0.up u, q1.up u⟩
theorem t_bytes_Cursor.open_ {I : Gh} {h : Heap} {cs : List Value} {x : bytes_Cursor} (r : t_bytes_Cursor.rep I h cs x) : ∃ a_0, ∃ c_0, ∃ v_2, cs = [.slice a_0 x.b'.length c_0, .int .i64 x.at', v_2] ∧ Rd (tInt .u8) I h a_0 c_0 x.b' ∧ ErrV I h x.err' v_2 := r

/-! shutter/shutterref01.Same -/
def shutterref01_Same.l1.m (K : Nat) (x0 : (List Int)) (x1 : (List Int)) : Nat → Int → Option (Bool ⊕ (Unit))
  | 0, _ => none
  | k + 1, x13 => (if x13 < (x0.length : Int) then (if 0 ≤ x13 then (if x13 < (x1.length : Int) then (if (at_ x0 x13) = (at_ x1 x13) then (shutterref01_Same.l1.m K x0 x1 k (w64 (x13 + 1))) else (some (Sum.inl false))) else none) else none) else (some (Sum.inr ())))
def shutterref01_Same.m (K : Nat) (x0 : (List Int)) (x1 : (List Int)) : Option Bool :=
  (if (x0.length : Int) = (x1.length : Int) then ((shutterref01_Same.l1.m K x0 x1 K 0).bind fun s15 => match s15 with | .inl q => (some q) | .inr _ => (some true)) else (some false))

set_option maxRecDepth 100000 in
theorem shutterref01_Same.calls {I : Gh} {h : Heap} {K : Nat} {x0 : List Int} {a1 : Option Addr} {c2 : Nat} {x1 : List Int} {a5 : Option Addr} {c6 : Nat} (_hB : Bd I h) (r4 : Rd (tInt .u8) I h a1 c2 x0) (r8 : Rd (tInt .u8) I h a5 c6 x1) {r : Bool}
    (H : shutterref01_Same.m K x0 x1 = some r) :
    Ret Tryd.prog 20 #[.slice a1 x0.length c2, .slice a5 x1.length c6] h (fun v h' => ∃ _ : Unit, .bool r = v ∧ h = h') := by
  unfold shutterref01_Same.m at H
  refine ret_of (args := [.slice a1 x0.length c2, .slice a5 x1.length c6]) (rs := [.tmp 4]) (N := 26) Tryd.func20 rfl rfl rfl (Nat.le_of_ble_eq_true rfl) ?_
  refine cwp_seq ?_
  refine cwp_region ?_
  refine lwp_run 1 (by kernel_rfl) ?_
  refine lwp_nil ?_
  refine cwp_seq ?_
  refine cwp_seq ?_
  refine cwp_region ?_
  refine lwp_run 4 (by kernel_rfl) ?_
  by_cases c9 : (x0.length : Int) = (x1.length : Int)
  · rw [if_pos c9] at H
    refine lwp_op (by kernel_rfl) (owp_pure ((.bool false)) (pr_bool (by kernel_rfl) (neF c9)) ?_)
    refine lwp_nil ?_
    refine cwp_false (by kernel_rfl) ?_
    refine cwp_skip ?_
    refine cwp_seq ?_
    refine cwp_seq ?_
    refine cwp_region ?_
    refine lwp_run 1 (by kernel_rfl) ?_
    refine lwp_nil ?_
    refine cwp_block ?_
    obtain ⟨s15, m19, HR20⟩ := bind_some H
    refine cwp_loopE 0 (fun ρ' h16 => ∃ (_ : Unit), Sum.inr () = s15 ∧ Fits [] ρ' ∧ h = h16) ?_ ?_
    · refine cwp_loop (fun k' ρ' h10 => ∃ (x13 : Int) (_ : Unit), shutterref01_Same.l1.m K x0 x1 k' x13 = some s15 ∧ Fits [(0, .slice a1 x0.length c2), (1, .slice a5 x1.length c6), (5, .int .i64 x13)] ρ' ∧ h = h10) K ⟨0, (), m19, ⟨by kernel_rfl, by kernel_rfl, by kernel_rfl, trivial⟩, rfl⟩ ?_
      clear m19
      rintro k' ρ' h10 ⟨x13, _, H, hf, rfl⟩
      cases k' with
      | zero => cases H
      | succ k =>
        rw [shutterref01_Same.l1.m] at H
        refine cwp_fits _ hf ?_
        refine cwp_seq ?_
        refine cwp_seq ?_
        refine cwp_region ?_
        refine lwp_run 3 (by kernel_rfl) ?_
        by_cases c21 : x13 < (x0.length : Int)
        · rw [if_pos c21] at H
          refine lwp_op (by kernel_rfl) (owp_pure ((.bool true)) (pr_bool (by kernel_rfl) (decide_eq_true c21)) ?_)
          refine lwp_nil ?_
          refine cwp_true (by kernel_rfl) ?_
          refine cwp_skip ?_
          refine cwp_seq ?_
          refine cwp_block ?_
          refine cwp_seq ?_
          refine cwp_regionD (Keep No h) 9 (by kernel_rfl) ?_
          obtain ⟨c22, H⟩ := guard_pos H
          refine awp_run (fuel := 7) [0, 1] Keep.refl (by kernel_rfl) ?_
          have hs23 := (r4.toSl).isSome c22 c21
          refine awp_pure 2 (elemPtr a1 (x13.toNat * 1)) rfl (by kernel_rfl) (by kernel_rfl) (pr_indexElem (e := 5) (r4.toSl) (k := .i64) (by kernel_rfl) (by kernel_rfl) (by kernel_rfl) (by kernel_rfl) c22 c21) Keep.refl ?_
          obtain ⟨cs24, hs25, rp26⟩ := (r4.toSl).seg c22 c21
          obtain rfl := rep_int rp26
          refine awp_load 3 rfl (by kernel_rfl) (by kernel_rfl) (by kernel_rfl) (by kernel_rfl) Keep.refl (seg_cell (f := 0) hs25 rfl) (fun _ _ x => x.elim) ?_
          obtain ⟨c27, H⟩ := guard_pos H
          refine awp_run (fuel := 3) [4, 5] Keep.refl (by kernel_rfl) ?_
          have hs28 := (r8.toSl).isSome c22 c27
          refine awp_pure 6 (elemPtr a5 (x13.toNat * 1)) rfl (by kernel_rfl) (by kernel_rfl) (pr_indexElem (e := 5) (r8.toSl) (k := .i64) (by kernel_rfl) (by kernel_rfl) (by kernel_rfl) (by kernel_rfl) c22 c27) Keep.refl ?_
          obtain ⟨cs29, hs30, rp31⟩ := (r8.toSl).seg c22 c27
          obtain rfl := rep_int rp31
          refine awp_load 7 rfl (by kernel_rfl) (by kernel_rfl) (by kernel_rfl) (by kernel_rfl) Keep.refl (seg_cell (f := 0) hs30 rfl) (fun _ _ x => x.elim) ?_
          by_cases c32 : (at_ x0 x13) = (at_ x1 x13)
          · rw [if_pos c32] at H
            refine awp_pure 8 ((.bool false)) rfl (by kernel_rfl) (by kernel_rfl) (pr_bool (by kernel_rfl) (neF c32)) Keep.refl ?_
            refine awp_nil (by kernel_rfl) ?_ 0
            refine cwp_false (by kernel_rfl) ?_
            refine cwp_skip ?_
            refine cwp_region ?_
            refine lwp_run 3 (by kernel_rfl) ?_
            refine lwp_nil ?_
            show Exists _
            exact ⟨k, Nat.lt_succ_self _, (w64 (x13 + 1)), (), H, ⟨by kernel_rfl, by kernel_rfl, by kernel_rfl, trivial⟩, rfl⟩
          · rw [if_neg c32] at H
            refine awp_pure 8 ((.bool true)) rfl (by kernel_rfl) (by kernel_rfl) (pr_bool (by kernel_rfl) (neT c32)) Keep.refl ?_
            refine awp_nil (by kernel_rfl) ?_ 0
            refine cwp_true (by kernel_rfl) ?_
            refine cwp_seq ?_
            refine cwp_region ?_
            refine lwp_run 1 (by kernel_rfl) ?_
            refine lwp_nil ?_
            refine cwp_ret ?_
            obtain rfl := Option.some.inj H
            obtain rfl := Option.some.inj HR20
            show Exists _
            exact ⟨.bool false, by kernel_rfl, (), rfl, rfl⟩
        · rw [if_neg c21] at H
          refine lwp_op (by kernel_rfl) (owp_pure ((.bool false)) (pr_bool (by kernel_rfl) (decide_eq_false c21)) ?_)
          refine lwp_nil ?_
          refine cwp_false (by kernel_rfl) ?_
          refine cwp_exit ?_
          obtain rfl := Option.some.inj H
          show Exists _
          exact ⟨(), rfl, trivial, rfl⟩
    · rintro ρ' h16 ⟨_, rfl, hf, rfl⟩
      have H := HR20
      try dsimp only at H
      refine cwp_fits _ hf ?_
      refine cwp_seq ?_
      refine cwp_region ?_
      refine lwp_run 1 (by kernel_rfl) ?_
      refine lwp_nil ?_
      refine cwp_ret ?_
      obtain rfl := Option.some.inj H
      show Exists _
      exact ⟨.bool true, by kernel_rfl, (), rfl, rfl⟩
  · rw [if_neg c9] at H
    refine lwp_op (by kernel_rfl) (owp_pure ((.bool true)) (pr_bool (by kernel_rfl) (neT c9)) ?_)
    refine lwp_nil ?_
    refine cwp_true (by kernel_rfl) ?_
    refine cwp_seq ?_
    refine cwp_region ?_
    refine lwp_run 1 (by kernel_rfl) ?_
    refine lwp_nil ?_
    refine cwp_ret ?_
    obtain rfl := Option.some.inj H
    show Exists _
    exact ⟨.bool false, by kernel_rfl, (), rfl, rfl⟩

/-! shutter/addr.sized -/
def addr_sized.m (x0 : Int) : Option Bool :=
  (if x0 ≥ 1 then (some (decide (x0 ≤ 16383))) else (some false))

set_option maxRecDepth 100000 in
theorem addr_sized.calls {I : Gh} {h : Heap} {x0 : Int} (_hB : Bd I h)  {r : Bool}
    (H : addr_sized.m x0 = some r) :
    Ret Tryd.prog 109 #[.int .i64 x0] h (fun v h' => ∃ _ : Unit, .bool r = v ∧ h = h') := by
  unfold addr_sized.m at H
  refine ret_of (args := [.int .i64 x0]) (rs := [.tmp 2]) (N := 9) Tryd.func109 rfl rfl rfl (Nat.le_of_ble_eq_true rfl) ?_
  refine cwp_seq ?_
  refine cwp_region ?_
  refine lwp_run 1 (by kernel_rfl) ?_
  refine lwp_nil ?_
  refine cwp_seq ?_
  refine cwp_region ?_
  refine lwp_run 1 (by kernel_rfl) ?_
  by_cases c1 : x0 ≥ 1
  · rw [if_pos c1] at H
    refine lwp_op (by kernel_rfl) (owp_pure ((.bool true)) (pr_bool (by kernel_rfl) (decide_eq_true c1)) ?_)
    refine lwp_run 5 (by kernel_rfl) ?_
    refine lwp_nil ?_
    refine cwp_ret ?_
    obtain rfl := Option.some.inj H
    show Exists _
    exact ⟨.bool (decide (x0 ≤ 16383)), by kernel_rfl, (), rfl, rfl⟩
  · rw [if_neg c1] at H
    refine lwp_op (by kernel_rfl) (owp_pure ((.bool false)) (pr_bool (by kernel_rfl) (decide_eq_false c1)) ?_)
    refine lwp_run 5 (by kernel_rfl) ?_
    refine lwp_nil ?_
    refine cwp_ret ?_
    obtain rfl := Option.some.inj H
    show Exists _
    exact ⟨.bool false, by kernel_rfl, (), rfl, rfl⟩

/-! shutter/addr.Long -/
def addr_Long.m (x0 : Int) : Option Bool :=
  (some (decide (x0 > 4096)))

set_option maxRecDepth 100000 in
theorem addr_Long.calls {I : Gh} {h : Heap} {x0 : Int} (_hB : Bd I h)  {r : Bool}
    (H : addr_Long.m x0 = some r) :
    Ret Tryd.prog 110 #[.int .i64 x0] h (fun v h' => ∃ _ : Unit, .bool r = v ∧ h = h') := by
  unfold addr_Long.m at H
  refine ret_of (args := [.int .i64 x0]) (rs := [.tmp 2]) (N := 5) Tryd.func110 rfl rfl rfl (Nat.le_of_ble_eq_true rfl) ?_
  refine cwp_seq ?_
  refine cwp_region ?_
  refine lwp_run 1 (by kernel_rfl) ?_
  refine lwp_nil ?_
  refine cwp_seq ?_
  refine cwp_region ?_
  refine lwp_run 3 (by kernel_rfl) ?_
  refine lwp_nil ?_
  refine cwp_ret ?_
  obtain rfl := Option.some.inj H
  show Exists _
  exact ⟨.bool (decide (x0 > 4096)), by kernel_rfl, (), rfl, rfl⟩

/-! shutter/six.digit -/
def six_digit.m (x0 : Int) : Option Int :=
  (if x0 ≥ 97 then (some (w64 ((w64 ((w64 (x0)) - 39)) - 48))) else (some (w64 ((w64 (x0)) - 48))))

set_option maxRecDepth 100000 in
theorem six_digit.calls {I : Gh} {h : Heap} {x0 : Int} (_hB : Bd I h)  {r : Int}
    (H : six_digit.m x0 = some r) :
    Ret Tryd.prog 137 #[.int .u8 x0] h (fun v h' => ∃ _ : Unit, .int .i64 r = v ∧ h = h') := by
  unfold six_digit.m at H
  refine ret_of (args := [.int .u8 x0]) (rs := [.tmp 2]) (N := 14) Tryd.func137 rfl rfl rfl (Nat.le_of_ble_eq_true rfl) ?_
  refine cwp_seq ?_
  refine cwp_region ?_
  refine lwp_run 1 (by kernel_rfl) ?_
  refine lwp_nil ?_
  refine cwp_seq ?_
  refine cwp_region ?_
  refine lwp_run 3 (by kernel_rfl) ?_
  refine lwp_nil ?_
  refine cwp_seq ?_
  refine cwp_block ?_
  refine cwp_seq ?_
  refine cwp_block ?_
  refine cwp_seq ?_
  refine cwp_block ?_
  refine cwp_seq ?_
  refine cwp_seq ?_
  refine cwp_region ?_
  refine lwp_run 1 (by kernel_rfl) ?_
  by_cases c1 : x0 ≥ 97
  · rw [if_pos c1] at H
    refine lwp_op (by kernel_rfl) (owp_pure ((.bool true)) (pr_bool (by kernel_rfl) (decide_eq_true c1)) ?_)
    refine lwp_run 1 (by kernel_rfl) ?_
    refine lwp_nil ?_
    refine cwp_true (by kernel_rfl) ?_
    refine cwp_exit ?_
    refine cwp_region ?_
    refine lwp_run 3 (by kernel_rfl) ?_
    refine lwp_nil ?_
    refine cwp_seq ?_
    refine cwp_region ?_
    refine lwp_run 3 (by kernel_rfl) ?_
    refine lwp_nil ?_
    refine cwp_exit ?_
    refine cwp_seq ?_
    refine cwp_region ?_
    refine lwp_run 2 (by kernel_rfl) ?_
    refine lwp_nil ?_
    refine cwp_ret ?_
    obtain rfl := Option.some.inj H
    show Exists _
    exact ⟨.int .i64 (w64 ((w64 ((w64 (x0)) - 39)) - 48)), by kernel_rfl, (), rfl, rfl⟩
  · rw [if_neg c1] at H
    refine lwp_op (by kernel_rfl) (owp_pure ((.bool false)) (pr_bool (by kernel_rfl) (decide_eq_false c1)) ?_)
    refine lwp_run 1 (by kernel_rfl) ?_
    refine lwp_nil ?_
    refine cwp_false (by kernel_rfl) ?_
    refine cwp_skip ?_
    refine cwp_exit ?_
    refine cwp_seq ?_
    refine cwp_region ?_
    refine lwp_run 3 (by kernel_rfl) ?_
    refine lwp_nil ?_
    refine cwp_exit ?_
    refine cwp_seq ?_
    refine cwp_region ?_
    refine lwp_run 2 (by kernel_rfl) ?_
    refine lwp_nil ?_
    refine cwp_ret ?_
    obtain rfl := Option.some.inj H
    show Exists _
    exact ⟨.int .i64 (w64 ((w64 (x0)) - 48)), by kernel_rfl, (), rfl, rfl⟩

/-! shutter/six.at -/
def six_at.m (x0 : Int) : Option Int :=
  (if 0 ≤ (w64 (2 * x0)) then (if (w64 (2 * x0)) < 128 then (if 0 ≤ (w64 ((w64 (2 * x0)) + 1)) then (if (w64 ((w64 (2 * x0)) + 1)) < 128 then ((six_digit.m (bt (⟨#[52, 48, 99, 49, 99, 50, 99, 51, 99, 52, 99, 53, 99, 54, 99, 55, 99, 56, 99, 57, 52, 97, 52, 98, 52, 99, 52, 100, 52, 101, 52, 102, 53, 48, 100, 49, 100, 50, 100, 51, 100, 52, 100, 53, 100, 54, 100, 55, 100, 56, 100, 57, 53, 97, 53, 98, 53, 99, 53, 100, 53, 101, 53, 102, 54, 48, 54, 49, 101, 50, 101, 51, 101, 52, 101, 53, 101, 54, 101, 55, 101, 56, 101, 57, 54, 97, 54, 98, 54, 99, 54, 100, 54, 101, 54, 102, 102, 48, 102, 49, 102, 50, 102, 51, 102, 52, 102, 53, 102, 54, 102, 55, 102, 56, 102, 57, 55, 97, 55, 98, 55, 99, 55, 100, 55, 101, 55, 102]⟩ : ByteArray) (w64 (2 * x0)))).bind fun t5 => ((six_digit.m (bt (⟨#[52, 48, 99, 49, 99, 50, 99, 51, 99, 52, 99, 53, 99, 54, 99, 55, 99, 56, 99, 57, 52, 97, 52, 98, 52, 99, 52, 100, 52, 101, 52, 102, 53, 48, 100, 49, 100, 50, 100, 51, 100, 52, 100, 53, 100, 54, 100, 55, 100, 56, 100, 57, 53, 97, 53, 98, 53, 99, 53, 100, 53, 101, 53, 102, 54, 48, 54, 49, 101, 50, 101, 51, 101, 52, 101, 53, 101, 54, 101, 55, 101, 56, 101, 57, 54, 97, 54, 98, 54, 99, 54, 100, 54, 101, 54, 102, 102, 48, 102, 49, 102, 50, 102, 51, 102, 52, 102, 53, 102, 54, 102, 55, 102, 56, 102, 57, 55, 97, 55, 98, 55, 99, 55, 100, 55, 101, 55, 102]⟩ : ByteArray) (w64 ((w64 (2 * x0)) + 1)))).bind fun t11 => (some (IntKind.u8.wrap ((bOr .i64 (shl .i64 t5 4) t11)))))) else none) else none) else none) else none)

set_option maxRecDepth 100000 in
theorem six_at.calls {I : Gh} {h : Heap} {x0 : Int} (hB : Bd I h)  {r : Int}
    (H : six_at.m x0 = some r) :
    Ret Tryd.prog 127 #[.int .i64 x0] h (fun v h' => ∃ _ : Unit, .int .u8 r = v ∧ h = h') := by
  unfold six_at.m at H
  refine ret_of (args := [.int .i64 x0]) (rs := [.tmp 2]) (N := 15) Tryd.func127 rfl rfl rfl (Nat.le_of_ble_eq_true rfl) ?_
  refine cwp_seq ?_
  refine cwp_region ?_
  refine lwp_run 1 (by kernel_rfl) ?_
  refine lwp_nil ?_
  refine cwp_seq ?_
  refine cwp_regionD (Keep No h) 13 (by kernel_rfl) ?_
  obtain ⟨c1, H⟩ := guard_pos H
  obtain ⟨c2, H⟩ := guard_pos H
  refine awp_run (fuel := 11) [0, 1] Keep.refl (by kernel_rfl) ?_
  refine awp_pure 2 ((.int .u8 (bt (⟨#[52, 48, 99, 49, 99, 50, 99, 51, 99, 52, 99, 53, 99, 54, 99, 55, 99, 56, 99, 57, 52, 97, 52, 98, 52, 99, 52, 100, 52, 101, 52, 102, 53, 48, 100, 49, 100, 50, 100, 51, 100, 52, 100, 53, 100, 54, 100, 55, 100, 56, 100, 57, 53, 97, 53, 98, 53, 99, 53, 100, 53, 101, 53, 102, 54, 48, 54, 49, 101, 50, 101, 51, 101, 52, 101, 53, 101, 54, 101, 55, 101, 56, 101, 57, 54, 97, 54, 98, 54, 99, 54, 100, 54, 101, 54, 102, 102, 48, 102, 49, 102, 50, 102, 51, 102, 52, 102, 53, 102, 54, 102, 55, 102, 56, 102, 57, 55, 97, 55, 98, 55, 99, 55, 100, 55, 101, 55, 102]⟩ : ByteArray) (w64 (2 * x0))))) rfl (by kernel_rfl) (by kernel_rfl) (pr_indexStr (s := (⟨#[52, 48, 99, 49, 99, 50, 99, 51, 99, 52, 99, 53, 99, 54, 99, 55, 99, 56, 99, 57, 52, 97, 52, 98, 52, 99, 52, 100, 52, 101, 52, 102, 53, 48, 100, 49, 100, 50, 100, 51, 100, 52, 100, 53, 100, 54, 100, 55, 100, 56, 100, 57, 53, 97, 53, 98, 53, 99, 53, 100, 53, 101, 53, 102, 54, 48, 54, 49, 101, 50, 101, 51, 101, 52, 101, 53, 101, 54, 101, 55, 101, 56, 101, 57, 54, 97, 54, 98, 54, 99, 54, 100, 54, 101, 54, 102, 102, 48, 102, 49, 102, 50, 102, 51, 102, 52, 102, 53, 102, 54, 102, 55, 102, 56, 102, 57, 55, 97, 55, 98, 55, 99, 55, 100, 55, 101, 55, 102]⟩ : ByteArray)) (k := .i64) (i := (w64 (2 * x0))) (by kernel_rfl) (by kernel_rfl) (by kernel_rfl) c1 c2) Keep.refl ?_
  obtain ⟨c3, H⟩ := guard_pos H
  obtain ⟨c4, H⟩ := guard_pos H
  refine awp_run (fuel := 7) [5, 6, 7] Keep.refl (by kernel_rfl) ?_
  refine awp_pure 8 ((.int .u8 (bt (⟨#[52, 48, 99, 49, 99, 50, 99, 51, 99, 52, 99, 53, 99, 54, 99, 55, 99, 56, 99, 57, 52, 97, 52, 98, 52, 99, 52, 100, 52, 101, 52, 102, 53, 48, 100, 49, 100, 50, 100, 51, 100, 52, 100, 53, 100, 54, 100, 55, 100, 56, 100, 57, 53, 97, 53, 98, 53, 99, 53, 100, 53, 101, 53, 102, 54, 48, 54, 49, 101, 50, 101, 51, 101, 52, 101, 53, 101, 54, 101, 55, 101, 56, 101, 57, 54, 97, 54, 98, 54, 99, 54, 100, 54, 101, 54, 102, 102, 48, 102, 49, 102, 50, 102, 51, 102, 52, 102, 53, 102, 54, 102, 55, 102, 56, 102, 57, 55, 97, 55, 98, 55, 99, 55, 100, 55, 101, 55, 102]⟩ : ByteArray) (w64 ((w64 (2 * x0)) + 1))))) rfl (by kernel_rfl) (by kernel_rfl) (pr_indexStr (s := (⟨#[52, 48, 99, 49, 99, 50, 99, 51, 99, 52, 99, 53, 99, 54, 99, 55, 99, 56, 99, 57, 52, 97, 52, 98, 52, 99, 52, 100, 52, 101, 52, 102, 53, 48, 100, 49, 100, 50, 100, 51, 100, 52, 100, 53, 100, 54, 100, 55, 100, 56, 100, 57, 53, 97, 53, 98, 53, 99, 53, 100, 53, 101, 53, 102, 54, 48, 54, 49, 101, 50, 101, 51, 101, 52, 101, 53, 101, 54, 101, 55, 101, 56, 101, 57, 54, 97, 54, 98, 54, 99, 54, 100, 54, 101, 54, 102, 102, 48, 102, 49, 102, 50, 102, 51, 102, 52, 102, 53, 102, 54, 102, 55, 102, 56, 102, 57, 55, 97, 55, 98, 55, 99, 55, 100, 55, 101, 55, 102]⟩ : ByteArray)) (k := .i64) (i := (w64 ((w64 (2 * x0)) + 1))) (by kernel_rfl) (by kernel_rfl) (by kernel_rfl) c3 c4) Keep.refl ?_
  obtain ⟨t5, m6, H⟩ := bind_some H
  refine awp_op 3 (by kernel_rfl) rfl (by kernel_rfl) (owp_callF (by kernel_rfl) (six_digit.calls (I := I) hB m6) ?_)
  rintro v7 h8 ⟨_, rfl, rfl⟩
  refine ⟨Keep.refl, ?_⟩
  refine awp_run (fuel := 4) [4] Keep.refl (by kernel_rfl) ?_
  obtain ⟨t11, m12, H⟩ := bind_some H
  refine awp_op 9 (by kernel_rfl) rfl (by kernel_rfl) (owp_callF (by kernel_rfl) (six_digit.calls (I := I) hB m12) ?_)
  rintro v13 h14 ⟨_, rfl, rfl⟩
  refine ⟨Keep.refl, ?_⟩
  refine awp_run (fuel := 0) [10, 11, 12] Keep.refl (by kernel_rfl) ?_
  refine awp_nil (by kernel_rfl) ?_ 0
  refine cwp_ret ?_
  obtain rfl := Option.some.inj H
  show Exists _
  exact ⟨.int .u8 (IntKind.u8.wrap ((bOr .i64 (shl .i64 t5 4) t11))), by kernel_rfl, (), rfl, rfl⟩

/-! shutter/six.Put -/
def six_Put.m (x0 : Int) : Option (Int × GoErr) :=
  (if x0 < 0 then (some (0, (GoErr.no 1))) else (if x0 ≥ 64 then (some (0, (GoErr.no 1))) else ((six_at.m x0).bind fun t3 => (some (t3, GoErr.nil)))))

set_option maxRecDepth 100000 in
theorem six_Put.calls {I : Gh} {h : Heap} {x0 : Int} (hB : Bd I h)  {r : (Int × GoErr)}
    (H : six_Put.m x0 = some r) :
    Ret Tryd.prog 111 #[.int .i64 x0] h (fun v h' => ∃ (v9 : Value), .tuple #[.int .u8 r.1, v9] = v ∧ h = h' ∧ ErrV I h r.2 v9) := by
  unfold six_Put.m at H
  refine ret_of (args := [.int .i64 x0]) (rs := [.tmp 2, .tmp 3]) (N := 13) Tryd.func111 rfl rfl rfl (Nat.le_of_ble_eq_true rfl) ?_
  refine cwp_seq ?_
  refine cwp_region ?_
  refine lwp_run 2 (by kernel_rfl) ?_
  refine lwp_nil ?_
  refine cwp_seq ?_
  refine cwp_seq ?_
  refine cwp_region ?_
  refine lwp_run 1 (by kernel_rfl) ?_
  by_cases c1 : x0 < 0
  · rw [if_pos c1] at H
    refine lwp_op (by kernel_rfl) (owp_pure ((.bool true)) (pr_bool (by kernel_rfl) (decide_eq_true c1)) ?_)
    refine lwp_run 4 (by kernel_rfl) ?_
    refine lwp_nil ?_
    refine cwp_true (by kernel_rfl) ?_
    refine cwp_seq ?_
    refine cwp_region ?_
    refine lwp_run 3 (by kernel_rfl) ?_
    refine lwp_nil ?_
    refine cwp_ret ?_
    obtain rfl := Option.some.inj H
    show Exists _
    exact ⟨.tuple #[.int .u8 0, .iface 97 (.int .i64 1)], by kernel_rfl, (.iface 97 (.int .i64 1)), rfl, rfl, (show ErrV I h (GoErr.no 1) (.iface 97 (.int .i64 1)) from rfl)⟩
  · rw [if_neg c1] at H
    refine lwp_op (by kernel_rfl) (owp_pure ((.bool false)) (pr_bool (by kernel_rfl) (decide_eq_false c1)) ?_)
    refine lwp_run 2 (by kernel_rfl) ?_
    by_cases c2 : x0 ≥ 64
    · rw [if_pos c2] at H
      refine lwp_op (by kernel_rfl) (owp_pure ((.bool true)) (pr_bool (by kernel_rfl) (decide_eq_true c2)) ?_)
      refine lwp_run 1 (by kernel_rfl) ?_
      refine lwp_nil ?_
      refine cwp_true (by kernel_rfl) ?_
      refine cwp_seq ?_
      refine cwp_region ?_
      refine lwp_run 3 (by kernel_rfl) ?_
      refine lwp_nil ?_
      refine cwp_ret ?_
      obtain rfl := Option.some.inj H
      show Exists _
      exact ⟨.tuple #[.int .u8 0, .iface 97 (.int .i64 1)], by kernel_rfl, (.iface 97 (.int .i64 1)), rfl, rfl, (show ErrV I h (GoErr.no 1) (.iface 97 (.int .i64 1)) from rfl)⟩
    · rw [if_neg c2] at H
      refine lwp_op (by kernel_rfl) (owp_pure ((.bool false)) (pr_bool (by kernel_rfl) (decide_eq_false c2)) ?_)
      refine lwp_run 1 (by kernel_rfl) ?_
      refine lwp_nil ?_
      refine cwp_false (by kernel_rfl) ?_
      refine cwp_skip ?_
      refine cwp_seq ?_
      refine cwp_region ?_
      refine lwp_run 1 (by kernel_rfl) ?_
      obtain ⟨t3, m4, H⟩ := bind_some H
      refine lwp_op (by kernel_rfl) (owp_callF (by kernel_rfl) (six_at.calls (I := I) hB m4) ?_)
      rintro v5 h6 ⟨_, rfl, rfl⟩
      refine lwp_run 2 (by kernel_rfl) ?_
      refine lwp_nil ?_
      refine cwp_ret ?_
      obtain rfl := Option.some.inj H
      show Exists _
      exact ⟨.tuple #[.int .u8 t3, .nilIface], by kernel_rfl, (.nilIface), rfl, rfl, (show ErrV I h GoErr.nil .nilIface from rfl)⟩

/-! shutter/addr.Put -/
def addr_Put.l1.m (K : Nat) (x0 : Int) : Nat → Int → (List Int) → Option (((List Int) × GoErr) ⊕ ((List Int)))
  | 0, _, _ => none
  | k + 1, x69, x72 => (letJ (α := Bool → Option (((List Int) × GoErr) ⊕ ((List Int)))) (fun (x90 : Bool) => (bif x90 then (if 0 ≤ x69 then (if x69 < ([(shr .i64 x0 6), (bAnd .i64 x0 63)].length : Int) then ((six_Put.m (at_ [(shr .i64 x0 6), (bAnd .i64 x0 63)] x69)).bind fun t100 => (if t100.2 = GoErr.nil then (if x69 < 2 then (addr_Put.l1.m K x0 k (w64 (x69 + 1)) (x72.set x69.toNat t100.1)) else none) else (some (Sum.inl ((List.replicate 2 (0 : Int)), t100.2))))) else none) else none) else (some (Sum.inr x72)))) fun (j93 : Bool → Option (((List Int) × GoErr) ⊕ ((List Int)))) => (if x69 < ([(shr .i64 x0 6), (bAnd .i64 x0 63)].length : Int) then (j93 true) else (j93 false)))
def addr_Put.m (K : Nat) (x0 : Int) (x1 : Int) : Option ((List Int) × GoErr) :=
  (letJ (α := Bool → Option ((List Int) × GoErr)) (fun (x17 : Bool) => (bif x17 then (some ((List.replicate 2 (0 : Int)), (GoErr.no 1))) else (letJ (α := Bool → Option ((List Int) × GoErr)) (fun (x29 : Bool) => (bif x29 then (some ((List.replicate 2 (0 : Int)), (GoErr.no 4))) else ((addr_Long.m x1).bind fun t36 => bif t36 then (some ([(IntKind.u8.wrap ((shr .i64 x0 8))), (IntKind.u8.wrap (x0))], GoErr.nil)) else ((addr_Put.l1.m K x0 K 0 (List.replicate 2 (0 : Int))).bind fun s75 => match s75 with | .inl q => (some q) | .inr x81 => (some (x81, GoErr.nil)))))) fun (j31 : Bool → Option ((List Int) × GoErr)) => (if x0 < 0 then (j31 true) else (if x0 ≥ x1 then (j31 true) else (j31 false)))))) fun (j19 : Bool → Option ((List Int) × GoErr)) => ((addr_sized.m x1).bind fun t8 => bif t8 then (j19 false) else (j19 true)))

set_option maxRecDepth 100000 in
theorem addr_Put.calls {I : Gh} {h : Heap} {K : Nat} {x0 : Int} {x1 : Int} (hB : Bd I h)  {r : ((List Int) × GoErr)}
    (H : addr_Put.m K x0 x1 = some r) :
    Ret Tryd.prog 85 #[.int .i64 x0, .int .i64 x1] h (fun v h' => ∃ (I' : Gh) (v133 : Value), .tuple #[.agg (List.map (Value.int .u8) r.1).toArray, v133] = v ∧ Pst No I h I' h' ∧ List.length r.1 = 2 ∧ ErrV I' h' r.2 v133) := by
  unfold addr_Put.m at H
  refine ret_of2 (args := [.int .i64 x0, .int .i64 x1]) (rs := [.cell 4 149, .tmp 5]) (N := 61) Tryd.func85 rfl rfl rfl (Nat.le_of_ble_eq_true rfl) ?_
  have pt0 : Pst No I h I h := Pst.refl hB
  refine cwp_seq ?_
  refine cwp_region ?_
  refine lwp_op (by kernel_rfl) (owp_alloc (List.map (Value.int .u8) (List.replicate 2 (0 : Int))) (.agg (List.map (Value.int .u8) (List.replicate 2 (0 : Int))).toArray) hB (by kernel_rfl) (by kernel_rfl) ?_)
  intro b1 h2 hc3 p4 o5
  have pt6 := pt0.no p4
  have fr7 : No b1 ∨ h.size ≤ b1 := .inr (Nat.le_trans pt0.size hc3)
  refine lwp_run 1 (by kernel_rfl) ?_
  refine lwp_nil ?_
  refine cwp_seq ?_
  refine cwp_block ?_
  obtain ⟨j19, e131, H⟩ := letJ_some H
  refine cwp_join (fun ρ' h14 => ∃ (x17 : Bool) (I15 : Gh), j19 x17 = some r ∧ Fits [(0, .int .i64 x0), (1, .int .i64 x1), (4, .pointer (some ⟨b1, 0, none⟩)), (11, .bool x17)] ρ' ∧ Pst No I h I15 h14 ∧ OwnB I15 h14 b1 (List.map (Value.int .u8) (List.replicate 2 (0 : Int))) 149) ?_ ?_
  · refine cwp_region ?_
    refine lwp_run 1 (by kernel_rfl) ?_
    obtain ⟨t8, m9, H⟩ := bind_some H
    refine lwp_op (by kernel_rfl) (owp_callF (by kernel_rfl) (addr_sized.calls (I := I) p4.bd m9) ?_)
    rintro v10 h11 ⟨_, rfl, rfl⟩
    cases t8
    · rw [cond_false] at H
      refine lwp_run 2 (by kernel_rfl) ?_
      refine lwp_nil ?_
      exact ⟨true, I, H, ⟨by kernel_rfl, by kernel_rfl, by kernel_rfl, by kernel_rfl, trivial⟩, pt6, o5⟩
    · rw [cond_true] at H
      refine lwp_run 2 (by kernel_rfl) ?_
      refine lwp_nil ?_
      exact ⟨false, I, H, ⟨by kernel_rfl, by kernel_rfl, by kernel_rfl, by kernel_rfl, trivial⟩, pt6, o5⟩
  · clear H
    rintro ρ' h14 ⟨x17, I15, H, hf, pt16, o18⟩
    refine cwp_fits _ hf ?_
    subst e131
    try dsimp only at H
    cases x17
    · rw [cond_false] at H
      refine cwp_false (by kernel_rfl) ?_
      obtain ⟨j31, e130, H⟩ := letJ_some H
      refine cwp_join (fun ρ' h26 => ∃ (x29 : Bool) (I27 : Gh), j31 x29 = some r ∧ Fits [(0, .int .i64 x0), (1, .int .i64 x1), (4, .pointer (some ⟨b1, 0, none⟩)), (17, .bool x29)] ρ' ∧ Pst No I h I27 h26 ∧ OwnB I27 h26 b1 (List.map (Value.int .u8) (List.replicate 2 (0 : Int))) 149) ?_ ?_
      · refine cwp_region ?_
        refine lwp_run 1 (by kernel_rfl) ?_
        by_cases c24 : x0 < 0
        · rw [if_pos c24] at H
          refine lwp_op (by kernel_rfl) (owp_pure ((.bool true)) (pr_bool (by kernel_rfl) (decide_eq_true c24)) ?_)
          refine lwp_run 6 (by kernel_rfl) ?_
          refine lwp_nil ?_
          exact ⟨true, I15, H, ⟨by kernel_rfl, by kernel_rfl, by kernel_rfl, by kernel_rfl, trivial⟩, pt16, o18⟩
        · rw [if_neg c24] at H
          refine lwp_op (by kernel_rfl) (owp_pure ((.bool false)) (pr_bool (by kernel_rfl) (decide_eq_false c24)) ?_)
          refine lwp_run 3 (by kernel_rfl) ?_
          by_cases c25 : x0 ≥ x1
          · rw [if_pos c25] at H
            refine lwp_op (by kernel_rfl) (owp_pure ((.bool true)) (pr_bool (by kernel_rfl) (decide_eq_true c25)) ?_)
            refine lwp_run 2 (by kernel_rfl) ?_
            refine lwp_nil ?_
            exact ⟨true, I15, H, ⟨by kernel_rfl, by kernel_rfl, by kernel_rfl, by kernel_rfl, trivial⟩, pt16, o18⟩
          · rw [if_neg c25] at H
            refine lwp_op (by kernel_rfl) (owp_pure ((.bool false)) (pr_bool (by kernel_rfl) (decide_eq_false c25)) ?_)
            refine lwp_run 2 (by kernel_rfl) ?_
            refine lwp_nil ?_
            exact ⟨false, I15, H, ⟨by kernel_rfl, by kernel_rfl, by kernel_rfl, by kernel_rfl, trivial⟩, pt16, o18⟩
      · clear H
        rintro ρ' h26 ⟨x29, I27, H, hf, pt28, o30⟩
        refine cwp_fits _ hf ?_
        subst e130
        try dsimp only at H
        cases x29
        · rw [cond_false] at H
          refine cwp_false (by kernel_rfl) ?_
          refine cwp_seq ?_
          refine cwp_region ?_
          refine lwp_run 1 (by kernel_rfl) ?_
          obtain ⟨t36, m37, H⟩ := bind_some H
          refine lwp_op (by kernel_rfl) (owp_callF (by kernel_rfl) (addr_Long.calls (I := I27) pt28.bd m37) ?_)
          rintro v38 h39 ⟨_, rfl, rfl⟩
          cases t36
          · rw [cond_false] at H
            refine lwp_run 1 (by kernel_rfl) ?_
            refine lwp_nil ?_
            refine cwp_false (by kernel_rfl) ?_
            refine cwp_skip ?_
            refine cwp_seq ?_
            refine cwp_region ?_
            refine lwp_op (by kernel_rfl) (owp_alloc (List.map (Value.int .u8) (List.replicate 2 (0 : Int))) (.agg (List.map (Value.int .u8) (List.replicate 2 (0 : Int))).toArray) pt28.bd (by kernel_rfl) (by kernel_rfl) ?_)
            intro b46 h47 hc48 p49 o50
            have pt51 := pt28.no p49
            have fr52 : No b46 ∨ h.size ≤ b46 := .inr (Nat.le_trans pt28.size hc48)
            have d53 := ne_new o30.lt hc48
            refine lwp_nil ?_
            refine cwp_seq ?_
            refine cwp_seq ?_
            refine cwp_region ?_
            refine lwp_run 4 (by kernel_rfl) ?_
            refine lwp_op (by kernel_rfl) (owp_buildSlice (e := 3) [.int .i64 (shr .i64 x0 6), .int .i64 (bAnd .i64 x0 63)] 1 (.int .i64 0) p49.bd (by kernel_rfl) (by kernel_rfl) (by kernel_rfl) (by kernel_rfl) (by kernel_rfl) ?_)
            intro b54 h55 hc56 p57 o58
            have pt59 := pt51.no p57
            have w60 := o58.own (l := ([(shr .i64 x0 6), (bAnd .i64 x0 63)] : List Int)) (Reps.int (I := I27) (k := .i64) (l := [(shr .i64 x0 6), (bAnd .i64 x0 63)]))
            have fw60 := some_nw (M := No) (Nat.le_trans pt51.size hc56)
            have f62 := o30.post p49 (fun x => x.elim)
            have d63 := some_ne (ne_new f62.lt hc56)
            have d64 := some_ne (ne_new o50.lt hc56)
            refine lwp_run 2 (by kernel_rfl) ?_
            refine lwp_nil ?_
            refine cwp_block ?_
            have f123 := o30.post p49 (fun x => x.elim)
            have f124 := f123.post p57 (fun x => x.elim)
            have f125 := o50.post p57 (fun x => x.elim)
            obtain ⟨s75, m83, HR84⟩ := bind_some H
            refine cwp_loopE 1 (fun ρ' h76 => ∃ (x81 : List Int) (I77 : Gh), Sum.inr x81 = s75 ∧ Fits [(4, .pointer (some ⟨b1, 0, none⟩)), (6, .pointer (some ⟨b46, 0, none⟩))] ρ' ∧ Pst No I h I77 h76 ∧ OwnB I77 h76 b1 (List.map (Value.int .u8) (List.replicate 2 (0 : Int))) 149 ∧ List.length x81 = 2 ∧ OwnB I77 h76 b46 (List.map (Value.int .u8) x81) 149) ?_ ?_
            · refine cwp_loop (fun k' ρ' h65 => ∃ (x69 : Int) (x72 : List Int) (I66 : Gh), addr_Put.l1.m K x0 k' x69 x72 = some s75 ∧ Fits [(4, .pointer (some ⟨b1, 0, none⟩)), (6, .pointer (some ⟨b46, 0, none⟩)), (40, .slice (some ⟨b54, 0, none⟩) ([(shr .i64 x0 6), (bAnd .i64 x0 63)].length) 2), (41, .int .i64 ([(shr .i64 x0 6), (bAnd .i64 x0 63)].length : Int)), (42, .int .i64 x69)] ρ' ∧ Pst No I h I66 h65 ∧ OwnX (tInt .i64) I66 I66 h65 (some ⟨b54, 0, none⟩) 2 [(shr .i64 x0 6), (bAnd .i64 x0 63)] ∧ OwnB I66 h65 b1 (List.map (Value.int .u8) (List.replicate 2 (0 : Int))) 149 ∧ List.length x72 = 2 ∧ OwnB I66 h65 b46 (List.map (Value.int .u8) x72) 149) K ⟨0, (List.replicate 2 (0 : Int)), I27, m83, ⟨by kernel_rfl, by kernel_rfl, by kernel_rfl, by kernel_rfl, by kernel_rfl, trivial⟩, pt59, w60, f124, (List.length_replicate (n := 2) (a := (0 : Int))), f125⟩ ?_
              clear m83
              rintro k' ρ' h65 ⟨x69, x72, I66, H, hf, pt67, r68, o70, hl71, o73⟩
              cases k' with
              | zero => cases H
              | succ k =>
                rw [addr_Put.l1.m] at H
                refine cwp_fits _ hf ?_
                obtain ⟨j93, e122, H⟩ := letJ_some H
                refine cwp_join (fun ρ' h86 => ∃ (x90 : Bool) (I87 : Gh), j93 x90 = some s75 ∧ Fits [(4, .pointer (some ⟨b1, 0, none⟩)), (6, .pointer (some ⟨b46, 0, none⟩)), (40, .slice (some ⟨b54, 0, none⟩) ([(shr .i64 x0 6), (bAnd .i64 x0 63)].length) 2), (41, .int .i64 ([(shr .i64 x0 6), (bAnd .i64 x0 63)].length : Int)), (42, .int .i64 x69), (43, .bool x90)] ρ' ∧ Pst No I h I87 h86 ∧ OwnX (tInt .i64) I87 I87 h86 (some ⟨b54, 0, none⟩) 2 [(shr .i64 x0 6), (bAnd .i64 x0 63)] ∧ OwnB I87 h86 b1 (List.map (Value.int .u8) (List.replicate 2 (0 : Int))) 149 ∧ OwnB I87 h86 b46 (List.map (Value.int .u8) x72) 149) ?_ ?_
                · refine cwp_region ?_
                  by_cases c85 : x69 < ([(shr .i64 x0 6), (bAnd .i64 x0 63)].length : Int)
                  · rw [if_pos c85] at H
                    refine lwp_op (by kernel_rfl) (owp_pure ((.bool true)) (pr_bool (by kernel_rfl) (decide_eq_true c85)) ?_)
                    refine lwp_nil ?_
                    exact ⟨true, I66, H, ⟨by kernel_rfl, by kernel_rfl, by kernel_rfl, by kernel_rfl, by kernel_rfl, by kernel_rfl, trivial⟩, pt67, r68, o70, o73⟩
                  · rw [if_neg c85] at H
                    refine lwp_op (by kernel_rfl) (owp_pure ((.bool false)) (pr_bool (by kernel_rfl) (decide_eq_false c85)) ?_)
                    refine lwp_nil ?_
                    exact ⟨false, I66, H, ⟨by kernel_rfl, by kernel_rfl, by kernel_rfl, by kernel_rfl, by kernel_rfl, by kernel_rfl, trivial⟩, pt67, r68, o70, o73⟩
                · clear H
                  rintro ρ' h86 ⟨x90, I87, H, hf, pt88, r89, o91, o92⟩
                  refine cwp_fits _ hf ?_
                  subst e122
                  try dsimp only at H
                  refine cwp_seq ?_
                  cases x90
                  · rw [cond_false] at H
                    refine cwp_false (by kernel_rfl) ?_
                    refine cwp_exit ?_
                    obtain rfl := Option.some.inj H
                    show Exists _
                    exact ⟨x72, I87, rfl, ⟨by kernel_rfl, by kernel_rfl, trivial⟩, pt88, o91, hl71, o92⟩
                  · rw [cond_true] at H
                    refine cwp_true (by kernel_rfl) ?_
                    refine cwp_skip ?_
                    refine cwp_seq ?_
                    refine cwp_block ?_
                    refine cwp_seq ?_
                    refine cwp_region ?_
                    obtain ⟨c94, H⟩ := guard_pos H
                    obtain ⟨c95, H⟩ := guard_pos H
                    refine lwp_run 1 (by kernel_rfl) ?_
                    have hs96 := (r89.toSl).isSome c94 c95
                    refine lwp_op (by kernel_rfl) (owp_pure (elemPtr (some ⟨b54, 0, none⟩) (x69.toNat * 1)) (pr_indexElem (e := 3) (r89.toSl) (k := .i64) (by kernel_rfl) (by kernel_rfl) (by kernel_rfl) (by kernel_rfl) c94 c95) ?_)
                    obtain ⟨cs97, hs98, rp99⟩ := (r89.toSl).seg c94 c95
                    obtain rfl := rep_int rp99
                    refine lwp_op (by kernel_rfl) (owp_load (by kernel_rfl) (by kernel_rfl) (seg_cell (f := 0) hs98 rfl) ?_)
                    refine lwp_run 2 (by kernel_rfl) ?_
                    refine lwp_nil ?_
                    refine cwp_seq ?_
                    refine cwp_region ?_
                    refine lwp_run 1 (by kernel_rfl) ?_
                    obtain ⟨t100, m101, H⟩ := bind_some H
                    refine lwp_op (by kernel_rfl) (owp_callF (by kernel_rfl) (six_Put.calls (I := I87) pt88.bd m101) ?_)
                    rintro v102 h103 ⟨v106, rfl, rfl, q108⟩
                    refine lwp_run 5 (by kernel_rfl) ?_
                    refine lwp_nil ?_
                    refine cwp_seq ?_
                    refine cwp_seq ?_
                    refine cwp_region ?_
                    refine lwp_run 1 (by kernel_rfl) ?_
                    rcases q108.cases with ⟨c109, rfl⟩ | ⟨c109, t110, u111, rfl⟩
                    · rw [if_pos c109] at H
                      refine lwp_run 1 (by kernel_rfl) ?_
                      refine lwp_nil ?_
                      refine cwp_false (by kernel_rfl) ?_
                      refine cwp_skip ?_
                      refine cwp_region ?_
                      obtain ⟨c112, H⟩ := guard_pos H
                      refine lwp_run 2 (by kernel_rfl) ?_
                      refine lwp_op (by kernel_rfl) (owp_pure ((elemPtr (some ⟨b46, 0, none⟩) (x69.toNat * 1))) (pr_indexArr (e := 5) (kk := .i64) (n := 2) (by kernel_rfl) (by kernel_rfl) (by kernel_rfl) (by kernel_rfl) c94 c112) ?_)
                      refine lwp_op (by kernel_rfl) (owp_storeArr t100.1 pt88.bd o92 hl71 c94 c112 (by kernel_rfl) (by kernel_rfl) (by kernel_rfl) ?_)
                      intro h113 p114 o115
                      have pt116 := pt88.own p114 (one_nw fr52)
                      refine lwp_nil ?_
                      refine cwp_region ?_
                      refine lwp_run 2 (by kernel_rfl) ?_
                      refine lwp_nil ?_
                      have f100001 := r89.post pt88.bd p114 (one_not o92.no) (dis_one d64)
                      have f100002 := o91.post p114 (fun e => d53 e.symm)
                      show Exists _
                      exact ⟨k, Nat.lt_succ_self _, (w64 (x69 + 1)), (x72.set x69.toNat t100.1), I87, H, ⟨by kernel_rfl, by kernel_rfl, by kernel_rfl, by kernel_rfl, by kernel_rfl, trivial⟩, pt116, f100001, f100002, (len_set hl71), o115⟩
                    · rw [if_neg c109] at H
                      refine lwp_run 1 (by kernel_rfl) ?_
                      refine lwp_nil ?_
                      refine cwp_true (by kernel_rfl) ?_
                      refine cwp_seq ?_
                      refine cwp_region ?_
                      refine lwp_run 2 (by kernel_rfl) ?_
                      refine lwp_op (by kernel_rfl) (owp_storeArrN (l2 := (List.replicate 2 (0 : Int))) pt88.bd o91 (List.length_replicate (n := 2) (a := (0 : Int))) (List.length_replicate (n := 2) (a := (0 : Int))) (by kernel_rfl) (by kernel_rfl) (by kernel_rfl) ?_)
                      intro h117 p118 o119
                      have pt120 := pt88.own p118 (one_nw fr7)
                      refine lwp_run 1 (by kernel_rfl) ?_
                      refine lwp_nil ?_
                      refine cwp_ret ?_
                      obtain rfl := Option.some.inj H
                      obtain rfl := Option.some.inj HR84
                      have f121 := ErrV.up (p118.up pt88.bd (one_not o91.no)) q108
                      show Exists _
                      exact ⟨[.agg (List.map (Value.int .u8) (List.replicate 2 (0 : Int))).toArray, (.iface t110 u111)], (.cons (.agg (by kernel_rfl) (by kernel_rfl) (by kernel_rfl) (o119.arrSeg (List.length_replicate (n := 2) (a := (0 : Int))))) (.cons (.tmp (by kernel_rfl)) .nil)), I87, ((.iface t110 u111)), rfl, pt120, (List.length_replicate (n := 2) (a := (0 : Int))), f121⟩
            · rintro ρ' h76 ⟨x81, I77, rfl, hf, pt78, o79, hl80, o82⟩
              have H := HR84
              try dsimp only at H
              refine cwp_fits _ hf ?_
              refine cwp_seq ?_
              refine cwp_region ?_
              refine lwp_op (by kernel_rfl) (owp_loadN (by kernel_rfl) (by kernel_rfl) (by kernel_rfl) (o82.arrSeg hl80) ?_)
              refine lwp_op (by kernel_rfl) (owp_storeArrN (l2 := x81) pt78.bd o79 (List.length_replicate (n := 2) (a := (0 : Int))) hl80 (by kernel_rfl) (by kernel_rfl) (by kernel_rfl) ?_)
              intro h126 p127 o128
              have pt129 := pt78.own p127 (one_nw fr7)
              refine lwp_run 1 (by kernel_rfl) ?_
              refine lwp_nil ?_
              refine cwp_ret ?_
              obtain rfl := Option.some.inj H
              show Exists _
              exact ⟨[.agg (List.map (Value.int .u8) x81).toArray, .nilIface], (.cons (.agg (by kernel_rfl) (by kernel_rfl) (by kernel_rfl) (o128.arrSeg hl80)) (.cons (.tmp (by kernel_rfl)) .nil)), I77, (.nilIface), rfl, pt129, hl80, (show ErrV I77 h126 GoErr.nil .nilIface from rfl)⟩
          · rw [cond_true] at H
            refine lwp_run 1 (by kernel_rfl) ?_
            refine lwp_nil ?_
            refine cwp_true (by kernel_rfl) ?_
            refine cwp_seq ?_
            refine cwp_region ?_
            refine lwp_run 6 (by kernel_rfl) ?_
            refine lwp_op (by kernel_rfl) (owp_storeArrN (l2 := [(IntKind.u8.wrap ((shr .i64 x0 8))), (IntKind.u8.wrap (x0))]) pt28.bd o30 (List.length_replicate (n := 2) (a := (0 : Int))) rfl (by kernel_rfl) (by kernel_rfl) (by kernel_rfl) ?_)
            intro h42 p43 o44
            have pt45 := pt28.own p43 (one_nw fr7)
            refine lwp_run 1 (by kernel_rfl) ?_
            refine lwp_nil ?_
            refine cwp_ret ?_
            obtain rfl := Option.some.inj H
            show Exists _
            exact ⟨[.agg (List.map (Value.int .u8) [(IntKind.u8.wrap ((shr .i64 x0 8))), (IntKind.u8.wrap (x0))]).toArray, .nilIface], (.cons (.agg (by kernel_rfl) (by kernel_rfl) (by kernel_rfl) (o44.arrSeg rfl)) (.cons (.tmp (by kernel_rfl)) .nil)), I27, (.nilIface), rfl, pt45, rfl, (show ErrV I27 h42 GoErr.nil .nilIface from rfl)⟩
        · rw [cond_true] at H
          refine cwp_true (by kernel_rfl) ?_
          refine cwp_seq ?_
          refine cwp_region ?_
          refine lwp_run 2 (by kernel_rfl) ?_
          refine lwp_op (by kernel_rfl) (owp_storeArrN (l2 := (List.replicate 2 (0 : Int))) pt28.bd o30 (List.length_replicate (n := 2) (a := (0 : Int))) (List.length_replicate (n := 2) (a := (0 : Int))) (by kernel_rfl) (by kernel_rfl) (by kernel_rfl) ?_)
          intro h32 p33 o34
          have pt35 := pt28.own p33 (one_nw fr7)
          refine lwp_run 1 (by kernel_rfl) ?_
          refine lwp_nil ?_
          refine cwp_ret ?_
          obtain rfl := Option.some.inj H
          show Exists _
          exact ⟨[.agg (List.map (Value.int .u8) (List.replicate 2 (0 : Int))).toArray, .iface 97 (.int .i64 4)], (.cons (.agg (by kernel_rfl) (by kernel_rfl) (by kernel_rfl) (o34.arrSeg (List.length_replicate (n := 2) (a := (0 : Int))))) (.cons (.tmp (by kernel_rfl)) .nil)), I27, (.iface 97 (.int .i64 4)), rfl, pt35, (List.length_replicate (n := 2) (a := (0 : Int))), (show ErrV I27 h32 (GoErr.no 4) (.iface 97 (.int .i64 4)) from rfl)⟩
    · rw [cond_true] at H
      refine cwp_true (by kernel_rfl) ?_
      refine cwp_seq ?_
      refine cwp_region ?_
      refine lwp_run 2 (by kernel_rfl) ?_
      refine lwp_op (by kernel_rfl) (owp_storeArrN (l2 := (List.replicate 2 (0 : Int))) pt16.bd o18 (List.length_replicate (n := 2) (a := (0 : Int))) (List.length_replicate (n := 2) (a := (0 : Int))) (by kernel_rfl) (by kernel_rfl) (by kernel_rfl) ?_)
      intro h20 p21 o22
      have pt23 := pt16.own p21 (one_nw fr7)
      refine lwp_run 1 (by kernel_rfl) ?_
      refine lwp_nil ?_
      refine cwp_ret ?_
      obtain rfl := Option.some.inj H
      show Exists _
      exact ⟨[.agg (List.map (Value.int .u8) (List.replicate 2 (0 : Int))).toArray, .iface 97 (.int .i64 1)], (.cons (.agg (by kernel_rfl) (by kernel_rfl) (by kernel_rfl) (o22.arrSeg (List.length_replicate (n := 2) (a := (0 : Int))))) (.cons (.tmp (by kernel_rfl)) .nil)), I15, (.iface 97 (.int .i64 1)), rfl, pt23, (List.length_replicate (n := 2) (a := (0 : Int))), (show ErrV I15 h20 (GoErr.no 1) (.iface 97 (.int .i64 1)) from rfl)⟩

/-! shutter/input.place -/
def input_place.m (K : Nat) (x0 : Int) (x1 : Int) : Option (List Int) :=
  ((addr_Put.m K x0 x1).bind fun t1 => (some t1.1))

set_option maxRecDepth 100000 in
theorem input_place.calls {I : Gh} {h : Heap} {K : Nat} {x0 : Int} {x1 : Int} (hB : Bd I h)  {r : (List Int)}
    (H : input_place.m K x0 x1 = some r) :
    Ret Tryd.prog 47 #[.int .i64 x0, .int .i64 x1] h (fun v h' => ∃ (I' : Gh) (a28 : Option Addr) (c29 : Nat), .slice a28 r.length c29 = v ∧ Pst No I h I' h' ∧ Rd (tInt .u8) I' h' a28 c29 r) := by
  unfold input_place.m at H
  refine ret_of (args := [.int .i64 x0, .int .i64 x1]) (rs := [.tmp 4]) (N := 14) Tryd.func47 rfl rfl rfl (Nat.le_of_ble_eq_true rfl) ?_
  have pt0 : Pst No I h I h := Pst.refl hB
  refine cwp_seq ?_
  refine cwp_region ?_
  refine lwp_run 1 (by kernel_rfl) ?_
  refine lwp_nil ?_
  refine cwp_seq ?_
  refine cwp_region ?_
  refine lwp_run 2 (by kernel_rfl) ?_
  obtain ⟨t1, m2, H⟩ := bind_some H
  refine lwp_op (by kernel_rfl) (owp_callF (by kernel_rfl) (addr_Put.calls (I := I) hB m2) ?_)
  rintro v3 h4 ⟨I5, v8, rfl, p6, hl7, q10⟩
  have pt11 := pt0.no p6
  refine lwp_run 3 (by kernel_rfl) ?_
  refine lwp_op (by kernel_rfl) (owp_alloc (List.map (Value.int .u8) (List.replicate 2 (0 : Int))) (.agg (List.map (Value.int .u8) (List.replicate 2 (0 : Int))).toArray) p6.bd (by kernel_rfl) (by kernel_rfl) ?_)
  intro b12 h13 hc14 p15 o16
  have pt17 := pt11.no p15
  have fr18 : No b12 ∨ h.size ≤ b12 := .inr (Nat.le_trans pt11.size hc14)
  refine lwp_op (by kernel_rfl) (owp_storeArrN (l2 := t1.1) p15.bd o16 (List.length_replicate (n := 2) (a := (0 : Int))) hl7 (by kernel_rfl) (by kernel_rfl) (by kernel_rfl) ?_)
  intro h19 p20 o21
  have pt22 := pt17.own p20 (one_nw fr18)
  refine lwp_run 1 (by kernel_rfl) ?_
  refine lwp_nil ?_
  refine cwp_seq ?_
  refine cwp_region ?_
  have pt23 := post_fzB o21 p20.bd pt22 fr18
  have bd24 := bd_fzB o21 p20.bd
  have o25 := o21.im
  have r26 := o25.arrRd hl7
  refine lwp_op (by kernel_rfl) (owp_pure ((.slice (some ⟨b12, 0, none⟩) t1.1.length 2)) (pr_sliceArr (n := 2) (l := t1.1) (by kernel_rfl) hl7) ?_)
  refine lwp_run 1 (by kernel_rfl) ?_
  refine lwp_nil ?_
  refine cwp_ret ?_
  obtain rfl := Option.some.inj H
  show Exists _
  exact ⟨.slice (some ⟨b12, 0, none⟩) t1.1.length 2, by kernel_rfl, (Fz I5 (some ⟨b12, 0, none⟩)), (some ⟨b12, 0, none⟩), 2, rfl, pt23, r26⟩

/-! shutter/attr.Bare -/
def attr_Bare.m (x0 : Int) : Option Bool :=
  (if x0 = 108 then (some true) else (if x0 = 110 then (some true) else (if x0 = 107 then (some true) else (if x0 = 109 then (some true) else (some false)))))

set_option maxRecDepth 100000 in
theorem attr_Bare.calls {I : Gh} {h : Heap} {x0 : Int} (_hB : Bd I h)  {r : Bool}
    (H : attr_Bare.m x0 = some r) :
    Ret Tryd.prog 46 #[.int .u8 x0] h (fun v h' => ∃ _ : Unit, .bool r = v ∧ h = h') := by
  unfold attr_Bare.m at H
  refine ret_of (args := [.int .u8 x0]) (rs := [.tmp 2]) (N := 10) Tryd.func46 rfl rfl rfl (Nat.le_of_ble_eq_true rfl) ?_
  refine cwp_seq ?_
  refine cwp_region ?_
  refine lwp_run 1 (by kernel_rfl) ?_
  refine lwp_nil ?_
  refine cwp_seq ?_
  refine cwp_seq ?_
  refine cwp_region ?_
  refine lwp_run 1 (by kernel_rfl) ?_
  refine lwp_nil ?_
  refine cwp_block ?_
  refine cwp_seq ?_
  refine cwp_block ?_
  refine cwp_block ?_
  refine cwp_seq ?_
  refine cwp_seq ?_
  refine cwp_seq ?_
  refine cwp_seq ?_
  refine cwp_region ?_
  by_cases c1 : x0 = 108
  · rw [if_pos c1] at H
    refine lwp_op (by kernel_rfl) (owp_pure ((.bool true)) (pr_bool (by kernel_rfl) (eqT c1)) ?_)
    refine lwp_run 1 (by kernel_rfl) ?_
    refine lwp_nil ?_
    refine cwp_true (by kernel_rfl) ?_
    refine cwp_skip ?_
    refine cwp_true (by kernel_rfl) ?_
    refine cwp_exit ?_
    refine cwp_seq ?_
    refine cwp_seq ?_
    refine cwp_region ?_
    refine lwp_run 1 (by kernel_rfl) ?_
    refine lwp_nil ?_
    refine cwp_ret ?_
    obtain rfl := Option.some.inj H
    show Exists _
    exact ⟨.bool true, by kernel_rfl, (), rfl, rfl⟩
  · rw [if_neg c1] at H
    refine lwp_op (by kernel_rfl) (owp_pure ((.bool false)) (pr_bool (by kernel_rfl) (eqF c1)) ?_)
    refine lwp_run 1 (by kernel_rfl) ?_
    refine lwp_nil ?_
    refine cwp_false (by kernel_rfl) ?_
    refine cwp_seq ?_
    refine cwp_region ?_
    by_cases c2 : x0 = 110
    · rw [if_pos c2] at H
      refine lwp_op (by kernel_rfl) (owp_pure ((.bool true)) (pr_bool (by kernel_rfl) (eqT c2)) ?_)
      refine lwp_run 1 (by kernel_rfl) ?_
      refine lwp_nil ?_
      refine cwp_true (by kernel_rfl) ?_
      refine cwp_skip ?_
      refine cwp_true (by kernel_rfl) ?_
      refine cwp_exit ?_
      refine cwp_seq ?_
      refine cwp_seq ?_
      refine cwp_region ?_
      refine lwp_run 1 (by kernel_rfl) ?_
      refine lwp_nil ?_
      refine cwp_ret ?_
      obtain rfl := Option.some.inj H
      show Exists _
      exact ⟨.bool true, by kernel_rfl, (), rfl, rfl⟩
    · rw [if_neg c2] at H
      refine lwp_op (by kernel_rfl) (owp_pure ((.bool false)) (pr_bool (by kernel_rfl) (eqF c2)) ?_)
      refine lwp_run 1 (by kernel_rfl) ?_
      refine lwp_nil ?_
      refine cwp_false (by kernel_rfl) ?_
      refine cwp_region ?_
      by_cases c3 : x0 = 107
      · rw [if_pos c3] at H
        refine lwp_op (by kernel_rfl) (owp_pure ((.bool true)) (pr_bool (by kernel_rfl) (eqT c3)) ?_)
        refine lwp_run 1 (by kernel_rfl) ?_
        refine lwp_nil ?_
        refine cwp_true (by kernel_rfl) ?_
        refine cwp_exit ?_
        refine cwp_seq ?_
        refine cwp_seq ?_
        refine cwp_region ?_
        refine lwp_run 1 (by kernel_rfl) ?_
        refine lwp_nil ?_
        refine cwp_ret ?_
        obtain rfl := Option.some.inj H
        show Exists _
        exact ⟨.bool true, by kernel_rfl, (), rfl, rfl⟩
      · rw [if_neg c3] at H
        refine lwp_op (by kernel_rfl) (owp_pure ((.bool false)) (pr_bool (by kernel_rfl) (eqF c3)) ?_)
        refine lwp_run 1 (by kernel_rfl) ?_
        refine lwp_nil ?_
        refine cwp_false (by kernel_rfl) ?_
        refine cwp_skip ?_
        refine cwp_seq ?_
        refine cwp_region ?_
        by_cases c4 : x0 = 109
        · rw [if_pos c4] at H
          refine lwp_op (by kernel_rfl) (owp_pure ((.bool true)) (pr_bool (by kernel_rfl) (eqT c4)) ?_)
          refine lwp_run 1 (by kernel_rfl) ?_
          refine lwp_nil ?_
          refine cwp_true (by kernel_rfl) ?_
          refine cwp_exit ?_
          refine cwp_seq ?_
          refine cwp_seq ?_
          refine cwp_region ?_
          refine lwp_run 1 (by kernel_rfl) ?_
          refine lwp_nil ?_
          refine cwp_ret ?_
          obtain rfl := Option.some.inj H
          show Exists _
          exact ⟨.bool true, by kernel_rfl, (), rfl, rfl⟩
        · rw [if_neg c4] at H
          refine lwp_op (by kernel_rfl) (owp_pure ((.bool false)) (pr_bool (by kernel_rfl) (eqF c4)) ?_)
          refine lwp_run 1 (by kernel_rfl) ?_
          refine lwp_nil ?_
          refine cwp_false (by kernel_rfl) ?_
          refine cwp_skip ?_
          refine cwp_exit ?_
          refine cwp_seq ?_
          refine cwp_region ?_
          refine lwp_run 1 (by kernel_rfl) ?_
          refine lwp_nil ?_
          refine cwp_ret ?_
          obtain rfl := Option.some.inj H
          show Exists _
          exact ⟨.bool false, by kernel_rfl, (), rfl, rfl⟩

/-! shutter/input.spot -/
def input_spot.m (x0 : Int) (x1 : GoErr) : Option GoErr :=
  (some (GoErr.spot x0 x1))

set_option maxRecDepth 100000 in
theorem input_spot.calls {I : Gh} {h : Heap} {x0 : Int} {x1 : GoErr} {v1 : Value} (hB : Bd I h) (q3 : ErrV I h x1 v1) {r : GoErr}
    (H : input_spot.m x0 x1 = some r) :
    Ret Tryd.prog 51 #[.int .i64 x0, v1] h (fun v h' => ∃ (I' : Gh) (v19 : Value), v19 = v ∧ Pst No I h I' h' ∧ ErrV I' h' r v19) := by
  unfold input_spot.m at H
  refine ret_of (args := [.int .i64 x0, v1]) (rs := [.tmp 4]) (N := 10) Tryd.func51 rfl rfl rfl (Nat.le_of_ble_eq_true rfl) ?_
  have pt0 : Pst No I h I h := Pst.refl hB
  refine cwp_seq ?_
  refine cwp_region ?_
  refine lwp_run 1 (by kernel_rfl) ?_
  refine lwp_nil ?_
  refine cwp_seq ?_
  refine cwp_region ?_
  refine lwp_run 2 (by kernel_rfl) ?_
  rcases q3.cases with ⟨c4, rfl⟩ | ⟨c4, t5, u6, rfl⟩
  · refine lwp_run 1 (by kernel_rfl) ?_
    refine lwp_op (by kernel_rfl) (owp_box [.int .i64 x0, .nilIface] hB (by kernel_rfl) ?_)
    intro b7 h8 hc9 p10 o11
    have pt12 := pt0.no p10
    have fr13 : No b7 ∨ h.size ≤ b7 := .inr (Nat.le_trans pt0.size hc9)
    have f14 := ErrV.up (p10.up hB (fun _ x => x.elim)) q3
    have pt15 := post_fzB o11 p10.bd pt12 fr13
    have bd16 := bd_fzB o11 p10.bd
    have q17 := mk_spot (a := x0) (e := x1) o11 f14
    refine lwp_run 2 (by kernel_rfl) ?_
    refine lwp_nil ?_
    refine cwp_ret ?_
    obtain rfl := Option.some.inj H
    show Exists _
    exact ⟨(.iface 115 (.pointer (some ⟨b7, 0, none⟩))), by kernel_rfl, (Fz I (some ⟨b7, 0, none⟩)), ((.iface 115 (.pointer (some ⟨b7, 0, none⟩)))), rfl, pt15, q17⟩
  · refine lwp_run 1 (by kernel_rfl) ?_
    refine lwp_op (by kernel_rfl) (owp_box [.int .i64 x0, (.iface t5 u6)] hB (by kernel_rfl) ?_)
    intro b7 h8 hc9 p10 o11
    have pt12 := pt0.no p10
    have fr13 : No b7 ∨ h.size ≤ b7 := .inr (Nat.le_trans pt0.size hc9)
    have f14 := ErrV.up (p10.up hB (fun _ x => x.elim)) q3
    have pt15 := post_fzB o11 p10.bd pt12 fr13
    have bd16 := bd_fzB o11 p10.bd
    have q17 := mk_spot (a := x0) (e := x1) o11 f14
    refine lwp_run 2 (by kernel_rfl) ?_
    refine lwp_nil ?_
    refine cwp_ret ?_
    obtain rfl := Option.some.inj H
    show Exists _
    exact ⟨(.iface 115 (.pointer (some ⟨b7, 0, none⟩))), by kernel_rfl, (Fz I (some ⟨b7, 0, none⟩)), ((.iface 115 (.pointer (some ⟨b7, 0, none⟩)))), rfl, pt15, q17⟩

/-! shutter/attr.Char -/
def attr_Char.m (x0 : Int) : Option Bool :=
  (if x0 = 0 then (some true) else (if x0 = 28 then (some true) else (if x0 = 30 then (some true) else (if x0 ≥ 64 then (some (x0 != 255)) else (some false)))))

set_option maxRecDepth 100000 in
theorem attr_Char.calls {I : Gh} {h : Heap} {x0 : Int} (_hB : Bd I h)  {r : Bool}
    (H : attr_Char.m x0 = some r) :
    Ret Tryd.prog 114 #[.int .u8 x0] h (fun v h' => ∃ _ : Unit, .bool r = v ∧ h = h') := by
  unfold attr_Char.m at H
  refine ret_of (args := [.int .u8 x0]) (rs := [.tmp 2]) (N := 15) Tryd.func114 rfl rfl rfl (Nat.le_of_ble_eq_true rfl) ?_
  refine cwp_seq ?_
  refine cwp_region ?_
  refine lwp_run 1 (by kernel_rfl) ?_
  refine lwp_nil ?_
  refine cwp_seq ?_
  refine cwp_seq ?_
  refine cwp_region ?_
  refine lwp_run 1 (by kernel_rfl) ?_
  refine lwp_nil ?_
  refine cwp_block ?_
  refine cwp_seq ?_
  refine cwp_block ?_
  refine cwp_block ?_
  refine cwp_seq ?_
  refine cwp_seq ?_
  refine cwp_seq ?_
  refine cwp_region ?_
  by_cases c1 : x0 = 0
  · rw [if_pos c1] at H
    refine lwp_op (by kernel_rfl) (owp_pure ((.bool true)) (pr_bool (by kernel_rfl) (eqT c1)) ?_)
    refine lwp_run 1 (by kernel_rfl) ?_
    refine lwp_nil ?_
    refine cwp_true (by kernel_rfl) ?_
    refine cwp_exit ?_
    refine cwp_seq ?_
    refine cwp_seq ?_
    refine cwp_region ?_
    refine lwp_run 1 (by kernel_rfl) ?_
    refine lwp_nil ?_
    refine cwp_ret ?_
    obtain rfl := Option.some.inj H
    show Exists _
    exact ⟨.bool true, by kernel_rfl, (), rfl, rfl⟩
  · rw [if_neg c1] at H
    refine lwp_op (by kernel_rfl) (owp_pure ((.bool false)) (pr_bool (by kernel_rfl) (eqF c1)) ?_)
    refine lwp_run 1 (by kernel_rfl) ?_
    refine lwp_nil ?_
    refine cwp_false (by kernel_rfl) ?_
    refine cwp_skip ?_
    refine cwp_seq ?_
    refine cwp_seq ?_
    refine cwp_region ?_
    by_cases c2 : x0 = 28
    · rw [if_pos c2] at H
      refine lwp_op (by kernel_rfl) (owp_pure ((.bool true)) (pr_bool (by kernel_rfl) (eqT c2)) ?_)
      refine lwp_run 1 (by kernel_rfl) ?_
      refine lwp_nil ?_
      refine cwp_true (by kernel_rfl) ?_
      refine cwp_skip ?_
      refine cwp_true (by kernel_rfl) ?_
      refine cwp_exit ?_
      refine cwp_seq ?_
      refine cwp_seq ?_
      refine cwp_region ?_
      refine lwp_run 1 (by kernel_rfl) ?_
      refine lwp_nil ?_
      refine cwp_ret ?_
      obtain rfl := Option.some.inj H
      show Exists _
      exact ⟨.bool true, by kernel_rfl, (), rfl, rfl⟩
    · rw [if_neg c2] at H
      refine lwp_op (by kernel_rfl) (owp_pure ((.bool false)) (pr_bool (by kernel_rfl) (eqF c2)) ?_)
      refine lwp_run 1 (by kernel_rfl) ?_
      refine lwp_nil ?_
      refine cwp_false (by kernel_rfl) ?_
      refine cwp_region ?_
      by_cases c3 : x0 = 30
      · rw [if_pos c3] at H
        refine lwp_op (by kernel_rfl) (owp_pure ((.bool true)) (pr_bool (by kernel_rfl) (eqT c3)) ?_)
        refine lwp_run 1 (by kernel_rfl) ?_
        refine lwp_nil ?_
        refine cwp_true (by kernel_rfl) ?_
        refine cwp_exit ?_
        refine cwp_seq ?_
        refine cwp_seq ?_
        refine cwp_region ?_
        refine lwp_run 1 (by kernel_rfl) ?_
        refine lwp_nil ?_
        refine cwp_ret ?_
        obtain rfl := Option.some.inj H
        show Exists _
        exact ⟨.bool true, by kernel_rfl, (), rfl, rfl⟩
      · rw [if_neg c3] at H
        refine lwp_op (by kernel_rfl) (owp_pure ((.bool false)) (pr_bool (by kernel_rfl) (eqF c3)) ?_)
        refine lwp_run 1 (by kernel_rfl) ?_
        refine lwp_nil ?_
        refine cwp_false (by kernel_rfl) ?_
        refine cwp_skip ?_
        refine cwp_exit ?_
        refine cwp_seq ?_
        refine cwp_region ?_
        refine lwp_run 1 (by kernel_rfl) ?_
        by_cases c4 : x0 ≥ 64
        · rw [if_pos c4] at H
          refine lwp_op (by kernel_rfl) (owp_pure ((.bool true)) (pr_bool (by kernel_rfl) (decide_eq_true c4)) ?_)
          refine lwp_run 5 (by kernel_rfl) ?_
          refine lwp_nil ?_
          refine cwp_ret ?_
          obtain rfl := Option.some.inj H
          show Exists _
          exact ⟨.bool (x0 != 255), by kernel_rfl, (), rfl, rfl⟩
        · rw [if_neg c4] at H
          refine lwp_op (by kernel_rfl) (owp_pure ((.bool false)) (pr_bool (by kernel_rfl) (decide_eq_false c4)) ?_)
          refine lwp_run 5 (by kernel_rfl) ?_
          refine lwp_nil ?_
          refine cwp_ret ?_
          obtain rfl := Option.some.inj H
          show Exists _
          exact ⟨.bool false, by kernel_rfl, (), rfl, rfl⟩

/-! shutter/input.letter -/
def input_letter.m (x0 : Int) : Option Bool :=
  (if x0 = 0 then (some false) else ((attr_Char.m x0).bind fun t2 => (some t2)))

set_option maxRecDepth 100000 in
theorem input_letter.calls {I : Gh} {h : Heap} {x0 : Int} (hB : Bd I h)  {r : Bool}
    (H : input_letter.m x0 = some r) :
    Ret Tryd.prog 90 #[.int .u8 x0] h (fun v h' => ∃ _ : Unit, .bool r = v ∧ h = h') := by
  unfold input_letter.m at H
  refine ret_of (args := [.int .u8 x0]) (rs := [.tmp 2]) (N := 9) Tryd.func90 rfl rfl rfl (Nat.le_of_ble_eq_true rfl) ?_
  refine cwp_seq ?_
  refine cwp_region ?_
  refine lwp_run 1 (by kernel_rfl) ?_
  refine lwp_nil ?_
  refine cwp_seq ?_
  refine cwp_region ?_
  refine lwp_run 1 (by kernel_rfl) ?_
  by_cases c1 : x0 = 0
  · rw [if_pos c1] at H
    refine lwp_op (by kernel_rfl) (owp_pure ((.bool false)) (pr_bool (by kernel_rfl) (neF c1)) ?_)
    refine lwp_run 5 (by kernel_rfl) ?_
    refine lwp_nil ?_
    refine cwp_ret ?_
    obtain rfl := Option.some.inj H
    show Exists _
    exact ⟨.bool false, by kernel_rfl, (), rfl, rfl⟩
  · rw [if_neg c1] at H
    refine lwp_op (by kernel_rfl) (owp_pure ((.bool true)) (pr_bool (by kernel_rfl) (neT c1)) ?_)
    refine lwp_run 2 (by kernel_rfl) ?_
    obtain ⟨t2, m3, H⟩ := bind_some H
    refine lwp_op (by kernel_rfl) (owp_callF (by kernel_rfl) (attr_Char.calls (I := I) hB m3) ?_)
    rintro v4 h5 ⟨_, rfl, rfl⟩
    refine lwp_run 2 (by kernel_rfl) ?_
    refine lwp_nil ?_
    refine cwp_ret ?_
    obtain rfl := Option.some.inj H
    show Exists _
    exact ⟨.bool t2, by kernel_rfl, (), rfl, rfl⟩

/-! shutter/input.strange -/
def input_strange.m (x0 : Int) : Option Bool :=
  ((input_letter.m x0).bind fun t1 => (some (!t1)))

set_option maxRecDepth 100000 in
theorem input_strange.calls {I : Gh} {h : Heap} {x0 : Int} (hB : Bd I h)  {r : Bool}
    (H : input_strange.m x0 = some r) :
    Ret Tryd.prog 94 #[.int .u8 x0] h (fun v h' => ∃ _ : Unit, .bool r = v ∧ h = h') := by
  unfold input_strange.m at H
  refine ret_of (args := [.int .u8 x0]) (rs := [.tmp 2]) (N := 6) Tryd.func94 rfl rfl rfl (Nat.le_of_ble_eq_true rfl) ?_
  refine cwp_seq ?_
  refine cwp_region ?_
  refine lwp_run 1 (by kernel_rfl) ?_
  refine lwp_nil ?_
  refine cwp_seq ?_
  refine cwp_region ?_
  refine lwp_run 1 (by kernel_rfl) ?_
  obtain ⟨t1, m2, H⟩ := bind_some H
  refine lwp_op (by kernel_rfl) (owp_callF (by kernel_rfl) (input_letter.calls (I := I) hB m2) ?_)
  rintro v3 h4 ⟨_, rfl, rfl⟩
  refine lwp_run 2 (by kernel_rfl) ?_
  refine lwp_nil ?_
  refine cwp_ret ?_
  obtain rfl := Option.some.inj H
  show Exists _
  exact ⟨.bool (!t1), by kernel_rfl, (), rfl, rfl⟩

/-! slices.IndexFunc[[]byte,byte] -/
def slices_IndexFunc_bytes__input_strange.l1.m (K : Nat) (x0 : (List Int)) : Nat → Int → Option (Int ⊕ (Unit))
  | 0, _ => none
  | k + 1, x8 => (letJ (α := Bool → Option (Int ⊕ (Unit))) (fun (x20 : Bool) => (bif x20 then (if 0 ≤ x8 then (if x8 < (x0.length : Int) then ((input_strange.m (at_ x0 x8)).bind fun t28 => bif t28 then (some (Sum.inl x8)) else (slices_IndexFunc_bytes__input_strange.l1.m K x0 k (w64 (x8 + 1)))) else none) else none) else (some (Sum.inr ())))) fun (j21 : Bool → Option (Int ⊕ (Unit))) => (if x8 < (x0.length : Int) then (j21 true) else (j21 false)))
def slices_IndexFunc_bytes__input_strange.m (K : Nat) (x0 : (List Int)) : Option Int :=
  ((slices_IndexFunc_bytes__input_strange.l1.m K x0 K 0).bind fun s10 => match s10 with | .inl q => (some q) | .inr _ => (some (-1)))

set_option maxRecDepth 100000 in
theorem slices_IndexFunc_bytes__input_strange.calls {I : Gh} {h : Heap} {K : Nat} {x0 : List Int} {a1 : Option Addr} {c2 : Nat} (hB : Bd I h) (r4 : Rd (tInt .u8) I h a1 c2 x0) {r : Int}
    (H : slices_IndexFunc_bytes__input_strange.m K x0 = some r) :
    Ret Tryd.prog 116 #[.slice a1 x0.length c2, .func (.func 94) #[] #[]] h (fun v h' => ∃ _ : Unit, .int .i64 r = v ∧ h = h') := by
  unfold slices_IndexFunc_bytes__input_strange.m at H
  refine ret_of (args := [.slice a1 x0.length c2, .func (.func 94) #[] #[]]) (rs := [.tmp 4]) (N := 19) Tryd.func116 rfl rfl rfl (Nat.le_of_ble_eq_true rfl) ?_
  refine cwp_seq ?_
  refine cwp_region ?_
  refine lwp_run 1 (by kernel_rfl) ?_
  refine lwp_nil ?_
  refine cwp_seq ?_
  refine cwp_seq ?_
  refine cwp_region ?_
  refine lwp_run 3 (by kernel_rfl) ?_
  refine lwp_nil ?_
  refine cwp_block ?_
  obtain ⟨s10, m14, HR15⟩ := bind_some H
  refine cwp_loopE 0 (fun ρ' h11 => ∃ (_ : Unit), Sum.inr () = s10 ∧ Fits [] ρ' ∧ h = h11) ?_ ?_
  · refine cwp_loop (fun k' ρ' h5 => ∃ (x8 : Int) (_ : Unit), slices_IndexFunc_bytes__input_strange.l1.m K x0 k' x8 = some s10 ∧ Fits [(0, .slice a1 x0.length c2), (1, .func (.func 94) #[] #[]), (7, .int .i64 (x0.length : Int)), (8, .int .i64 x8)] ρ' ∧ h = h5) K ⟨0, (), m14, ⟨by kernel_rfl, by kernel_rfl, by kernel_rfl, by kernel_rfl, trivial⟩, rfl⟩ ?_
    clear m14
    rintro k' ρ' h5 ⟨x8, _, H, hf, rfl⟩
    cases k' with
    | zero => cases H
    | succ k =>
      rw [slices_IndexFunc_bytes__input_strange.l1.m] at H
      refine cwp_fits _ hf ?_
      obtain ⟨j21, e34, H⟩ := letJ_some H
      refine cwp_join (fun ρ' h17 => ∃ (x20 : Bool) (_ : Unit), j21 x20 = some s10 ∧ Fits [(0, .slice a1 x0.length c2), (1, .func (.func 94) #[] #[]), (7, .int .i64 (x0.length : Int)), (8, .int .i64 x8), (9, .bool x20)] ρ' ∧ h = h17) ?_ ?_
      · refine cwp_region ?_
        by_cases c16 : x8 < (x0.length : Int)
        · rw [if_pos c16] at H
          refine lwp_op (by kernel_rfl) (owp_pure ((.bool true)) (pr_bool (by kernel_rfl) (decide_eq_true c16)) ?_)
          refine lwp_nil ?_
          exact ⟨true, (), H, ⟨by kernel_rfl, by kernel_rfl, by kernel_rfl, by kernel_rfl, by kernel_rfl, trivial⟩, rfl⟩
        · rw [if_neg c16] at H
          refine lwp_op (by kernel_rfl) (owp_pure ((.bool false)) (pr_bool (by kernel_rfl) (decide_eq_false c16)) ?_)
          refine lwp_nil ?_
          exact ⟨false, (), H, ⟨by kernel_rfl, by kernel_rfl, by kernel_rfl, by kernel_rfl, by kernel_rfl, trivial⟩, rfl⟩
      · clear H
        rintro ρ' h17 ⟨x20, _, H, hf, rfl⟩
        refine cwp_fits _ hf ?_
        subst e34
        try dsimp only at H
        refine cwp_seq ?_
        cases x20
        · rw [cond_false] at H
          refine cwp_false (by kernel_rfl) ?_
          refine cwp_exit ?_
          obtain rfl := Option.some.inj H
          show Exists _
          exact ⟨(), rfl, trivial, rfl⟩
        · rw [cond_true] at H
          refine cwp_true (by kernel_rfl) ?_
          refine cwp_skip ?_
          refine cwp_seq ?_
          refine cwp_block ?_
          refine cwp_seq ?_
          refine cwp_region ?_
          refine lwp_run 2 (by kernel_rfl) ?_
          refine lwp_nil ?_
          refine cwp_seq ?_
          refine cwp_region ?_
          obtain ⟨c22, H⟩ := guard_pos H
          obtain ⟨c23, H⟩ := guard_pos H
          refine lwp_run 3 (by kernel_rfl) ?_
          have hs24 := (r4.toSl).isSome c22 c23
          refine lwp_op (by kernel_rfl) (owp_pure (elemPtr a1 (x8.toNat * 1)) (pr_indexElem (e := 5) (r4.toSl) (k := .i64) (by kernel_rfl) (by kernel_rfl) (by kernel_rfl) (by kernel_rfl) c22 c23) ?_)
          obtain ⟨cs25, hs26, rp27⟩ := (r4.toSl).seg c22 c23
          obtain rfl := rep_int rp27
          refine lwp_op (by kernel_rfl) (owp_load (by kernel_rfl) (by kernel_rfl) (seg_cell (f := 0) hs26 rfl) ?_)
          obtain ⟨t28, m29, H⟩ := bind_some H
          refine lwp_op (by kernel_rfl) (owp_callF (by kernel_rfl) (input_strange.calls (I := I) hB m29) ?_)
          rintro v30 h31 ⟨_, rfl, rfl⟩
          cases t28
          · rw [cond_false] at H
            refine lwp_nil ?_
            refine cwp_false (by kernel_rfl) ?_
            refine cwp_skip ?_
            refine cwp_region ?_
            refine lwp_run 2 (by kernel_rfl) ?_
            refine lwp_nil ?_
            show Exists _
            exact ⟨k, Nat.lt_succ_self _, (w64 (x8 + 1)), (), H, ⟨by kernel_rfl, by kernel_rfl, by kernel_rfl, by kernel_rfl, trivial⟩, rfl⟩
          · rw [cond_true] at H
            refine lwp_nil ?_
            refine cwp_true (by kernel_rfl) ?_
            refine cwp_seq ?_
            refine cwp_region ?_
            refine lwp_run 2 (by kernel_rfl) ?_
            refine lwp_nil ?_
            refine cwp_ret ?_
            obtain rfl := Option.some.inj H
            obtain rfl := Option.some.inj HR15
            show Exists _
            exact ⟨.int .i64 x8, by kernel_rfl, (), rfl, rfl⟩
  · rintro ρ' h11 ⟨_, rfl, hf, rfl⟩
    have H := HR15
    try dsimp only at H
    refine cwp_fits _ hf ?_
    refine cwp_seq ?_
    refine cwp_region ?_
    refine lwp_run 1 (by kernel_rfl) ?_
    refine lwp_nil ?_
    refine cwp_ret ?_
    obtain rfl := Option.some.inj H
    show Exists _
    exact ⟨.int .i64 (-1), by kernel_rfl, (), rfl, rfl⟩

/-! slices.ContainsFunc[[]byte,byte] -/
def slices_ContainsFunc_bytes__input_strange.m (K : Nat) (x0 : (List Int)) : Option Bool :=
  ((slices_IndexFunc_bytes__input_strange.m K x0).bind fun t5 => (some (decide (t5 ≥ 0))))

set_option maxRecDepth 100000 in
theorem slices_ContainsFunc_bytes__input_strange.calls {I : Gh} {h : Heap} {K : Nat} {x0 : List Int} {a1 : Option Addr} {c2 : Nat} (hB : Bd I h) (r4 : Rd (tInt .u8) I h a1 c2 x0) {r : Bool}
    (H : slices_ContainsFunc_bytes__input_strange.m K x0 = some r) :
    Ret Tryd.prog 93 #[.slice a1 x0.length c2, .func (.func 94) #[] #[]] h (fun v h' => ∃ (I' : Gh), .bool r = v ∧ Pst No I h I' h') := by
  unfold slices_ContainsFunc_bytes__input_strange.m at H
  refine ret_of (args := [.slice a1 x0.length c2, .func (.func 94) #[] #[]]) (rs := [.tmp 4]) (N := 9) Tryd.func93 rfl rfl rfl (Nat.le_of_ble_eq_true rfl) ?_
  have pt0 : Pst No I h I h := Pst.refl hB
  refine cwp_seq ?_
  refine cwp_region ?_
  refine lwp_run 1 (by kernel_rfl) ?_
  refine lwp_nil ?_
  refine cwp_seq ?_
  refine cwp_region ?_
  refine lwp_run 2 (by kernel_rfl) ?_
  obtain ⟨t5, m6, H⟩ := bind_some H
  refine lwp_op (by kernel_rfl) (owp_callF (by kernel_rfl) (slices_IndexFunc_bytes__input_strange.calls (I := I) hB r4 m6) ?_)
  rintro v7 h8 ⟨_, rfl, rfl⟩
  refine lwp_run 2 (by kernel_rfl) ?_
  refine lwp_nil ?_
  refine cwp_ret ?_
  obtain rfl := Option.some.inj H
  show Exists _
  exact ⟨.bool (decide (t5 ≥ 0)), by kernel_rfl, I, rfl, pt0⟩

/-! shutter/input.field -/
def input_field.m (K : Nat) (x0 : api_Entry) (x1 : Bool) (x2 : Int) : Option GoErr :=
  (letJ (α := Bool → Option GoErr) (fun (x17 : Bool) => (letJ (α := Bool → Option GoErr) (fun (x27 : Bool) => (bif x27 then (some (GoErr.no 4)) else (letJ (α := Bool → Option GoErr) (fun (x42 : Bool) => (bif x42 then (some (GoErr.no 3)) else (bif x17 then (if (x0.Text.length : Int) = 0 then (some (GoErr.no 1)) else (some GoErr.nil)) else (some GoErr.nil)))) fun (j45 : Bool → Option GoErr) => ((slices_ContainsFunc_bytes__input_strange.m K x0.Text).bind fun t31 => bif t31 then (j45 true) else (j45 false))))) fun (j30 : Bool → Option GoErr) => (bif x17 then (j30 false) else (if x0.Addr < 0 then (j30 true) else (if x0.Addr ≥ x2 then (j30 true) else (j30 false)))))) fun (j20 : Bool → Option GoErr) => (bif x1 then (if x0.Addr = (-1) then (j20 true) else (j20 false)) else (j20 false)))

set_option maxRecDepth 100000 in
theorem input_field.calls {I B : Gh} {h : Heap} {K : Nat} {x0 : api_Entry} {a1 : Option Addr} {c2 : Nat} {x1 : Bool} {x2 : Int} (hB : Bd I h) (hBB : Bd B h) (r4 : Rd (tInt .u8) (Or2 I B) h a1 c2 x0.Text) {r : GoErr}
    (H : input_field.m K x0 x1 x2 = some r) :
    Ret Tryd.prog 63 #[.agg #[.int .i64 x0.Addr, .slice a1 x0.Text.length c2], .bool x1, .int .i64 x2] h (fun v h' => ∃ (I' : Gh) (v51 : Value), v51 = v ∧ Pst No I h I' h' ∧ ErrV I' h' r v51) := by
  unfold input_field.m at H
  refine ret_of (args := [.agg #[.int .i64 x0.Addr, .slice a1 x0.Text.length c2], .bool x1, .int .i64 x2]) (rs := [.tmp 6]) (N := 43) Tryd.func63 rfl rfl rfl (Nat.le_of_ble_eq_true rfl) ?_
  have pt0 : Pst No I h I h := Pst.refl hB
  refine cwp_seq ?_
  refine cwp_region ?_
  refine lwp_op (by kernel_rfl) (owp_box [.int .i64 x0.Addr, .slice a1 x0.Text.length c2] hB (by kernel_rfl) ?_)
  intro b5 h6 hc7 p8 o9
  have pt10 := pt0.no p8
  have fr11 : No b5 ∨ h.size ≤ b5 := .inr (Nat.le_trans pt0.size hc7)
  refine lwp_run 1 (by kernel_rfl) ?_
  refine lwp_nil ?_
  obtain ⟨j20, e50, H⟩ := letJ_some H
  refine cwp_join (fun ρ' h14 => ∃ (x17 : Bool) (I15 : Gh), j20 x17 = some r ∧ Fits [(2, .int .i64 x2), (3, .pointer (some ⟨b5, 0, none⟩)), (7, .bool x17)] ρ' ∧ Pst No I h I15 h14 ∧ Rd (tInt .u8) (Or2 I15 B) h14 a1 c2 x0.Text ∧ OwnB I15 h14 b5 [.int .i64 x0.Addr, .slice a1 x0.Text.length c2] 62) ?_ ?_
  · refine cwp_region ?_
    rcases bool_or x1 with c12 | c12
    · replace H := bif_f c12 H
      refine lwp_op (by kernel_rfl) (owp_pure ((.bool false)) (pr_bool (by kernel_rfl) c12) ?_)
      refine lwp_run 6 (by kernel_rfl) ?_
      refine lwp_nil ?_
      have f100007 := r4.up (upOr (p8.up hB (fun _ x => x.elim)) (keepB p8 (hBB.mono pt0.size) (fun _ x => x.elim)))
      exact ⟨false, I, H, ⟨by kernel_rfl, by kernel_rfl, by kernel_rfl, trivial⟩, pt10, f100007, o9⟩
    · replace H := bif_t c12 H
      refine lwp_op (by kernel_rfl) (owp_pure ((.bool true)) (pr_bool (by kernel_rfl) c12) ?_)
      refine lwp_run 2 (by kernel_rfl) ?_
      refine lwp_op (by kernel_rfl) (owp_load (by kernel_rfl) (by kernel_rfl) (o9.cell (off := 0) rfl) ?_)
      by_cases c13 : x0.Addr = (-1)
      · rw [if_pos c13] at H
        refine lwp_op (by kernel_rfl) (owp_pure ((.bool true)) (pr_bool (by kernel_rfl) (eqT c13)) ?_)
        refine lwp_run 2 (by kernel_rfl) ?_
        refine lwp_nil ?_
        have f100005 := r4.up (upOr (p8.up hB (fun _ x => x.elim)) (keepB p8 (hBB.mono pt0.size) (fun _ x => x.elim)))
        exact ⟨true, I, H, ⟨by kernel_rfl, by kernel_rfl, by kernel_rfl, trivial⟩, pt10, f100005, o9⟩
      · rw [if_neg c13] at H
        refine lwp_op (by kernel_rfl) (owp_pure ((.bool false)) (pr_bool (by kernel_rfl) (eqF c13)) ?_)
        refine lwp_run 2 (by kernel_rfl) ?_
        refine lwp_nil ?_
        have f100006 := r4.up (upOr (p8.up hB (fun _ x => x.elim)) (keepB p8 (hBB.mono pt0.size) (fun _ x => x.elim)))
        exact ⟨false, I, H, ⟨by kernel_rfl, by kernel_rfl, by kernel_rfl, trivial⟩, pt10, f100006, o9⟩
  · clear H
    rintro ρ' h14 ⟨x17, I15, H, hf, pt16, r18, o19⟩
    refine cwp_fits _ hf ?_
    subst e50
    try dsimp only at H
    refine cwp_seq ?_
    refine cwp_block ?_
    obtain ⟨j30, e49, H⟩ := letJ_some H
    refine cwp_join (fun ρ' h24 => ∃ (x27 : Bool) (I25 : Gh), j30 x27 = some r ∧ Fits [(3, .pointer (some ⟨b5, 0, none⟩)), (7, .bool x17), (14, .bool x27)] ρ' ∧ Pst No I h I25 h24 ∧ Rd (tInt .u8) (Or2 I25 B) h24 a1 c2 x0.Text ∧ OwnB I25 h24 b5 [.int .i64 x0.Addr, .slice a1 x0.Text.length c2] 62) ?_ ?_
    · refine cwp_region ?_
      rcases bool_or x17 with c21 | c21
      · replace H := bif_f c21 H
        refine lwp_op (by kernel_rfl) (owp_pure ((.bool false)) (pr_bool (by kernel_rfl) c21) ?_)
        refine lwp_run 3 (by kernel_rfl) ?_
        refine lwp_op (by kernel_rfl) (owp_load (by kernel_rfl) (by kernel_rfl) (o19.cell (off := 0) rfl) ?_)
        by_cases c22 : x0.Addr < 0
        · rw [if_pos c22] at H
          refine lwp_op (by kernel_rfl) (owp_pure ((.bool true)) (pr_bool (by kernel_rfl) (decide_eq_true c22)) ?_)
          refine lwp_run 8 (by kernel_rfl) ?_
          refine lwp_nil ?_
          exact ⟨true, I15, H, ⟨by kernel_rfl, by kernel_rfl, by kernel_rfl, trivial⟩, pt16, r18, o19⟩
        · rw [if_neg c22] at H
          refine lwp_op (by kernel_rfl) (owp_pure ((.bool false)) (pr_bool (by kernel_rfl) (decide_eq_false c22)) ?_)
          refine lwp_run 2 (by kernel_rfl) ?_
          refine lwp_op (by kernel_rfl) (owp_load (by kernel_rfl) (by kernel_rfl) (o19.cell (off := 0) rfl) ?_)
          refine lwp_run 1 (by kernel_rfl) ?_
          by_cases c23 : x0.Addr ≥ x2
          · rw [if_pos c23] at H
            refine lwp_op (by kernel_rfl) (owp_pure ((.bool true)) (pr_bool (by kernel_rfl) (decide_eq_true c23)) ?_)
            refine lwp_run 3 (by kernel_rfl) ?_
            refine lwp_nil ?_
            exact ⟨true, I15, H, ⟨by kernel_rfl, by kernel_rfl, by kernel_rfl, trivial⟩, pt16, r18, o19⟩
          · rw [if_neg c23] at H
            refine lwp_op (by kernel_rfl) (owp_pure ((.bool false)) (pr_bool (by kernel_rfl) (decide_eq_false c23)) ?_)
            refine lwp_run 3 (by kernel_rfl) ?_
            refine lwp_nil ?_
            exact ⟨false, I15, H, ⟨by kernel_rfl, by kernel_rfl, by kernel_rfl, trivial⟩, pt16, r18, o19⟩
      · replace H := bif_t c21 H
        refine lwp_op (by kernel_rfl) (owp_pure ((.bool true)) (pr_bool (by kernel_rfl) c21) ?_)
        refine lwp_run 13 (by kernel_rfl) ?_
        refine lwp_nil ?_
        exact ⟨false, I15, H, ⟨by kernel_rfl, by kernel_rfl, by kernel_rfl, trivial⟩, pt16, r18, o19⟩
    · clear H
      rintro ρ' h24 ⟨x27, I25, H, hf, pt26, r28, o29⟩
      refine cwp_fits _ hf ?_
      subst e49
      try dsimp only at H
      cases x27
      · rw [cond_false] at H
        refine cwp_false (by kernel_rfl) ?_
        obtain ⟨j45, e48, H⟩ := letJ_some H
        refine cwp_join (fun ρ' h39 => ∃ (x42 : Bool) (I40 : Gh), j45 x42 = some r ∧ Fits [(3, .pointer (some ⟨b5, 0, none⟩)), (7, .bool x17), (29, .bool x42)] ρ' ∧ Pst No I h I40 h39 ∧ Rd (tInt .u8) (Or2 I40 B) h39 a1 c2 x0.Text ∧ OwnB I40 h39 b5 [.int .i64 x0.Addr, .slice a1 x0.Text.length c2] 62) ?_ ?_
        · refine cwp_region ?_
          refine lwp_run 1 (by kernel_rfl) ?_
          refine lwp_op (by kernel_rfl) (owp_load (by kernel_rfl) (by kernel_rfl) (o29.cell (off := 1) rfl) ?_)
          obtain ⟨t31, m32, H⟩ := bind_some H
          refine lwp_op (by kernel_rfl) (owp_callF (by kernel_rfl) (slices_ContainsFunc_bytes__input_strange.calls (I := (Or2 I25 B)) (bdOr pt26.bd (hBB.mono pt26.size)) r28 m32) ?_)
          rintro v33 h34 ⟨I35, rfl, p36⟩
          have p37 := Pst.forget p36 pt26.bd
          have pt38 := pt26.no p37
          cases t31
          · rw [cond_false] at H
            refine lwp_run 1 (by kernel_rfl) ?_
            refine lwp_nil ?_
            have f100003 := r28.up (upOr (p37.up pt26.bd (fun _ x => x.elim)) (keepB p37 (hBB.mono pt26.size) (fun _ x => x.elim)))
            have f100004 := o29.post p37 (fun x => x.elim)
            exact ⟨false, I25, H, ⟨by kernel_rfl, by kernel_rfl, by kernel_rfl, trivial⟩, pt38, f100003, f100004⟩
          · rw [cond_true] at H
            refine lwp_run 1 (by kernel_rfl) ?_
            refine lwp_nil ?_
            have f100001 := r28.up (upOr (p37.up pt26.bd (fun _ x => x.elim)) (keepB p37 (hBB.mono pt26.size) (fun _ x => x.elim)))
            have f100002 := o29.post p37 (fun x => x.elim)
            exact ⟨true, I25, H, ⟨by kernel_rfl, by kernel_rfl, by kernel_rfl, trivial⟩, pt38, f100001, f100002⟩
        · clear H
          rintro ρ' h39 ⟨x42, I40, H, hf, pt41, r43, o44⟩
          refine cwp_fits _ hf ?_
          subst e48
          try dsimp only at H
          cases x42
          · rw [cond_false] at H
            refine cwp_false (by kernel_rfl) ?_
            refine cwp_seq ?_
            refine cwp_region ?_
            rcases bool_or x17 with c46 | c46
            · replace H := bif_f c46 H
              refine lwp_op (by kernel_rfl) (owp_pure ((.bool false)) (pr_bool (by kernel_rfl) c46) ?_)
              refine lwp_run 7 (by kernel_rfl) ?_
              refine lwp_nil ?_
              refine cwp_false (by kernel_rfl) ?_
              refine cwp_skip ?_
              refine cwp_seq ?_
              refine cwp_region ?_
              refine lwp_run 1 (by kernel_rfl) ?_
              refine lwp_nil ?_
              refine cwp_ret ?_
              obtain rfl := Option.some.inj H
              show Exists _
              exact ⟨.nilIface, by kernel_rfl, I40, (.nilIface), rfl, pt41, (show ErrV I40 h39 GoErr.nil .nilIface from rfl)⟩
            · replace H := bif_t c46 H
              refine lwp_op (by kernel_rfl) (owp_pure ((.bool true)) (pr_bool (by kernel_rfl) c46) ?_)
              refine lwp_run 2 (by kernel_rfl) ?_
              refine lwp_op (by kernel_rfl) (owp_load (by kernel_rfl) (by kernel_rfl) (o44.cell (off := 1) rfl) ?_)
              refine lwp_run 1 (by kernel_rfl) ?_
              by_cases c47 : (x0.Text.length : Int) = 0
              · rw [if_pos c47] at H
                refine lwp_op (by kernel_rfl) (owp_pure ((.bool true)) (pr_bool (by kernel_rfl) (eqT c47)) ?_)
                refine lwp_run 2 (by kernel_rfl) ?_
                refine lwp_nil ?_
                refine cwp_true (by kernel_rfl) ?_
                refine cwp_seq ?_
                refine cwp_region ?_
                refine lwp_run 2 (by kernel_rfl) ?_
                refine lwp_nil ?_
                refine cwp_ret ?_
                obtain rfl := Option.some.inj H
                show Exists _
                exact ⟨.iface 97 (.int .i64 1), by kernel_rfl, I40, (.iface 97 (.int .i64 1)), rfl, pt41, (show ErrV I40 h39 (GoErr.no 1) (.iface 97 (.int .i64 1)) from rfl)⟩
              · rw [if_neg c47] at H
                refine lwp_op (by kernel_rfl) (owp_pure ((.bool false)) (pr_bool (by kernel_rfl) (eqF c47)) ?_)
                refine lwp_run 2 (by kernel_rfl) ?_
                refine lwp_nil ?_
                refine cwp_false (by kernel_rfl) ?_
                refine cwp_skip ?_
                refine cwp_seq ?_
                refine cwp_region ?_
                refine lwp_run 1 (by kernel_rfl) ?_
                refine lwp_nil ?_
                refine cwp_ret ?_
                obtain rfl := Option.some.inj H
                show Exists _
                exact ⟨.nilIface, by kernel_rfl, I40, (.nilIface), rfl, pt41, (show ErrV I40 h39 GoErr.nil .nilIface from rfl)⟩
          · rw [cond_true] at H
            refine cwp_true (by kernel_rfl) ?_
            refine cwp_seq ?_
            refine cwp_region ?_
            refine lwp_run 2 (by kernel_rfl) ?_
            refine lwp_nil ?_
            refine cwp_ret ?_
            obtain rfl := Option.some.inj H
            show Exists _
            exact ⟨.iface 97 (.int .i64 3), by kernel_rfl, I40, (.iface 97 (.int .i64 3)), rfl, pt41, (show ErrV I40 h39 (GoErr.no 3) (.iface 97 (.int .i64 3)) from rfl)⟩
      · rw [cond_true] at H
        refine cwp_true (by kernel_rfl) ?_
        refine cwp_seq ?_
        refine cwp_region ?_
        refine lwp_run 2 (by kernel_rfl) ?_
        refine lwp_nil ?_
        refine cwp_ret ?_
        obtain rfl := Option.some.inj H
        show Exists _
        exact ⟨.iface 97 (.int .i64 4), by kernel_rfl, I25, (.iface 97 (.int .i64 4)), rfl, pt26, (show ErrV I25 h24 (GoErr.no 4) (.iface 97 (.int .i64 4)) from rfl)⟩

/-! shutter/attr.Aid -/
def attr_Aid.m (x0 : Int) : Option Bool :=
  ((attr_Bare.m x0).bind fun t1 => bif t1 then (some true) else (if x0 = 125 then (some true) else (if x0 ≥ 241 then (if x0 ≤ 249 then (some true) else (if x0 ≥ 122 then (some (decide (x0 ≤ 124))) else (some false))) else (if x0 ≥ 122 then (some (decide (x0 ≤ 124))) else (some false)))))

set_option maxRecDepth 100000 in
theorem attr_Aid.calls {I : Gh} {h : Heap} {x0 : Int} (hB : Bd I h)  {r : Bool}
    (H : attr_Aid.m x0 = some r) :
    Ret Tryd.prog 55 #[.int .u8 x0] h (fun v h' => ∃ _ : Unit, .bool r = v ∧ h = h') := by
  unfold attr_Aid.m at H
  refine ret_of (args := [.int .u8 x0]) (rs := [.tmp 2]) (N := 25) Tryd.func55 rfl rfl rfl (Nat.le_of_ble_eq_true rfl) ?_
  refine cwp_seq ?_
  refine cwp_region ?_
  refine lwp_run 1 (by kernel_rfl) ?_
  refine lwp_nil ?_
  refine cwp_seq ?_
  refine cwp_region ?_
  refine lwp_run 1 (by kernel_rfl) ?_
  obtain ⟨t1, m2, H⟩ := bind_some H
  refine lwp_op (by kernel_rfl) (owp_callF (by kernel_rfl) (attr_Bare.calls (I := I) hB m2) ?_)
  rintro v3 h4 ⟨_, rfl, rfl⟩
  cases t1
  · rw [cond_false] at H
    refine lwp_run 2 (by kernel_rfl) ?_
    by_cases c7 : x0 = 125
    · rw [if_pos c7] at H
      refine lwp_op (by kernel_rfl) (owp_pure ((.bool true)) (pr_bool (by kernel_rfl) (eqT c7)) ?_)
      refine lwp_run 18 (by kernel_rfl) ?_
      refine lwp_nil ?_
      refine cwp_ret ?_
      obtain rfl := Option.some.inj H
      show Exists _
      exact ⟨.bool true, by kernel_rfl, (), rfl, rfl⟩
    · rw [if_neg c7] at H
      refine lwp_op (by kernel_rfl) (owp_pure ((.bool false)) (pr_bool (by kernel_rfl) (eqF c7)) ?_)
      refine lwp_run 3 (by kernel_rfl) ?_
      by_cases c8 : x0 ≥ 241
      · rw [if_pos c8] at H
        refine lwp_op (by kernel_rfl) (owp_pure ((.bool true)) (pr_bool (by kernel_rfl) (decide_eq_true c8)) ?_)
        refine lwp_run 2 (by kernel_rfl) ?_
        by_cases c9 : x0 ≤ 249
        · rw [if_pos c9] at H
          refine lwp_op (by kernel_rfl) (owp_pure ((.bool true)) (pr_bool (by kernel_rfl) (decide_eq_true c9)) ?_)
          refine lwp_run 11 (by kernel_rfl) ?_
          refine lwp_nil ?_
          refine cwp_ret ?_
          obtain rfl := Option.some.inj H
          show Exists _
          exact ⟨.bool true, by kernel_rfl, (), rfl, rfl⟩
        · rw [if_neg c9] at H
          refine lwp_op (by kernel_rfl) (owp_pure ((.bool false)) (pr_bool (by kernel_rfl) (decide_eq_false c9)) ?_)
          refine lwp_run 4 (by kernel_rfl) ?_
          by_cases c10 : x0 ≥ 122
          · rw [if_pos c10] at H
            refine lwp_op (by kernel_rfl) (owp_pure ((.bool true)) (pr_bool (by kernel_rfl) (decide_eq_true c10)) ?_)
            refine lwp_run 6 (by kernel_rfl) ?_
            refine lwp_nil ?_
            refine cwp_ret ?_
            obtain rfl := Option.some.inj H
            show Exists _
            exact ⟨.bool (decide (x0 ≤ 124)), by kernel_rfl, (), rfl, rfl⟩
          · rw [if_neg c10] at H
            refine lwp_op (by kernel_rfl) (owp_pure ((.bool false)) (pr_bool (by kernel_rfl) (decide_eq_false c10)) ?_)
            refine lwp_run 6 (by kernel_rfl) ?_
            refine lwp_nil ?_
            refine cwp_ret ?_
            obtain rfl := Option.some.inj H
            show Exists _
            exact ⟨.bool false, by kernel_rfl, (), rfl, rfl⟩
      · rw [if_neg c8] at H
        refine lwp_op (by kernel_rfl) (owp_pure ((.bool false)) (pr_bool (by kernel_rfl) (decide_eq_false c8)) ?_)
        refine lwp_run 7 (by kernel_rfl) ?_
        by_cases c11 : x0 ≥ 122
        · rw [if_pos c11] at H
          refine lwp_op (by kernel_rfl) (owp_pure ((.bool true)) (pr_bool (by kernel_rfl) (decide_eq_true c11)) ?_)
          refine lwp_run 6 (by kernel_rfl) ?_
          refine lwp_nil ?_
          refine cwp_ret ?_
          obtain rfl := Option.some.inj H
          show Exists _
          exact ⟨.bool (decide (x0 ≤ 124)), by kernel_rfl, (), rfl, rfl⟩
        · rw [if_neg c11] at H
          refine lwp_op (by kernel_rfl) (owp_pure ((.bool false)) (pr_bool (by kernel_rfl) (decide_eq_false c11)) ?_)
          refine lwp_run 6 (by kernel_rfl) ?_
          refine lwp_nil ?_
          refine cwp_ret ?_
          obtain rfl := Option.some.inj H
          show Exists _
          exact ⟨.bool false, by kernel_rfl, (), rfl, rfl⟩
  · rw [cond_true] at H
    refine lwp_run 21 (by kernel_rfl) ?_
    refine lwp_nil ?_
    refine cwp_ret ?_
    obtain rfl := Option.some.inj H
    show Exists _
    exact ⟨.bool true, by kernel_rfl, (), rfl, rfl⟩

/-! shutter/input.Right -/
def input_Right.l1.m (K : Nat) (x0 : api_In) (x1 : Int) : Nat → Int → Option (GoErr ⊕ (Unit))
  | 0, _ => none
  | k + 1, x46 => (letJ (α := Bool → Option (GoErr ⊕ (Unit))) (fun (x62 : Bool) => (bif x62 then (if 0 ≤ x46 then (if x46 < (x0.Fields.length : Int) then ((input_field.m K (at_ x0.Fields x46) ((x0.Fields.length : Int) == 1) x1).bind fun t91 => (if t91 = GoErr.nil then (input_Right.l1.m K x0 x1 k (w64 (x46 + 1))) else ((input_spot.m x46 t91).bind fun t104 => (some (Sum.inl t104))))) else none) else none) else (some (Sum.inr ())))) fun (j64 : Bool → Option (GoErr ⊕ (Unit))) => (if x46 < (x0.Fields.length : Int) then (j64 true) else (j64 false)))
def input_Right.m (K : Nat) (x0 : api_In) (x1 : Int) : Option GoErr :=
  (letJ (α := Bool → Option GoErr) (fun (x21 : Bool) => (bif x21 then (some (GoErr.no 3)) else (letJ (α := Bool → Option GoErr) (fun (x34 : Bool) => (bif x34 then (if x0.Cursor = 0 then (if (x0.Fields.length : Int) > 0 then (some (GoErr.no 1)) else (some GoErr.nil)) else (some (GoErr.no 1))) else (if x0.Cursor < 0 then (some (GoErr.no 4)) else (if x0.Cursor ≥ x1 then (some (GoErr.no 4)) else ((input_Right.l1.m K x0 x1 K 0).bind fun s49 => match s49 with | .inl q => (some q) | .inr _ => (some GoErr.nil)))))) fun (j37 : Bool → Option GoErr) => ((attr_Bare.m x0.Aid).bind fun t25 => bif t25 then (j37 true) else (j37 false))))) fun (j24 : Bool → Option GoErr) => ((attr_Aid.m x0.Aid).bind fun t12 => bif t12 then (j24 false) else (j24 true)))

set_option maxRecDepth 100000 in
theorem input_Right.calls {I B : Gh} {h : Heap} {K : Nat} {x0 : api_In} {a1 : Option Addr} {c2 : Nat} {x1 : Int} (hB : Bd I h) (hBB : Bd B h) (r4 : Rd t_api_Entry (Or2 I B) h a1 c2 x0.Fields) {r : GoErr}
    (H : input_Right.m K x0 x1 = some r) :
    Ret Tryd.prog 31 #[.agg #[.int .u8 x0.Aid, .int .i64 x0.Cursor, .slice a1 x0.Fields.length c2], .int .i64 x1] h (fun v h' => ∃ (I' : Gh) (v117 : Value), v117 = v ∧ Pst No I h I' h' ∧ ErrV I' h' r v117) := by
  unfold input_Right.m at H
  refine ret_of (args := [.agg #[.int .u8 x0.Aid, .int .i64 x0.Cursor, .slice a1 x0.Fields.length c2], .int .i64 x1]) (rs := [.tmp 4]) (N := 60) Tryd.func31 rfl rfl rfl (Nat.le_of_ble_eq_true rfl) ?_
  have pt0 : Pst No I h I h := Pst.refl hB
  refine cwp_seq ?_
  refine cwp_region ?_
  refine lwp_op (by kernel_rfl) (owp_box [.int .u8 x0.Aid, .int .i64 x0.Cursor, .slice a1 x0.Fields.length c2] hB (by kernel_rfl) ?_)
  intro b5 h6 hc7 p8 o9
  have pt10 := pt0.no p8
  have fr11 : No b5 ∨ h.size ≤ b5 := .inr (Nat.le_trans pt0.size hc7)
  refine lwp_run 1 (by kernel_rfl) ?_
  refine lwp_nil ?_
  refine cwp_seq ?_
  refine cwp_block ?_
  obtain ⟨j24, e116, H⟩ := letJ_some H
  refine cwp_join (fun ρ' h18 => ∃ (x21 : Bool) (I19 : Gh), j24 x21 = some r ∧ Fits [(1, .int .i64 x1), (2, .pointer (some ⟨b5, 0, none⟩)), (8, .bool x21)] ρ' ∧ Pst No I h I19 h18 ∧ Rd t_api_Entry (Or2 I19 B) h18 a1 c2 x0.Fields ∧ OwnB I19 h18 b5 [.int .u8 x0.Aid, .int .i64 x0.Cursor, .slice a1 x0.Fields.length c2] 51) ?_ ?_
  · refine cwp_region ?_
    refine lwp_run 1 (by kernel_rfl) ?_
    refine lwp_op (by kernel_rfl) (owp_load (by kernel_rfl) (by kernel_rfl) (o9.cell (off := 0) rfl) ?_)
    obtain ⟨t12, m13, H⟩ := bind_some H
    refine lwp_op (by kernel_rfl) (owp_callF (by kernel_rfl) (attr_Aid.calls (I := I) p8.bd m13) ?_)
    rintro v14 h15 ⟨_, rfl, rfl⟩
    cases t12
    · rw [cond_false] at H
      refine lwp_run 2 (by kernel_rfl) ?_
      refine lwp_nil ?_
      have f100008 := r4.up (upOr (p8.up hB (fun _ x => x.elim)) (keepB p8 (hBB.mono pt0.size) (fun _ x => x.elim)))
      exact ⟨true, I, H, ⟨by kernel_rfl, by kernel_rfl, by kernel_rfl, trivial⟩, pt10, f100008, o9⟩
    · rw [cond_true] at H
      refine lwp_run 2 (by kernel_rfl) ?_
      refine lwp_nil ?_
      have f100007 := r4.up (upOr (p8.up hB (fun _ x => x.elim)) (keepB p8 (hBB.mono pt0.size) (fun _ x => x.elim)))
      exact ⟨false, I, H, ⟨by kernel_rfl, by kernel_rfl, by kernel_rfl, trivial⟩, pt10, f100007, o9⟩
  · clear H
    rintro ρ' h18 ⟨x21, I19, H, hf, pt20, r22, o23⟩
    refine cwp_fits _ hf ?_
    subst e116
    try dsimp only at H
    cases x21
    · rw [cond_false] at H
      refine cwp_false (by kernel_rfl) ?_
      obtain ⟨j37, e115, H⟩ := letJ_some H
      refine cwp_join (fun ρ' h31 => ∃ (x34 : Bool) (I32 : Gh), j37 x34 = some r ∧ Fits [(1, .int .i64 x1), (2, .pointer (some ⟨b5, 0, none⟩)), (14, .bool x34)] ρ' ∧ Pst No I h I32 h31 ∧ Rd t_api_Entry (Or2 I32 B) h31 a1 c2 x0.Fields ∧ OwnB I32 h31 b5 [.int .u8 x0.Aid, .int .i64 x0.Cursor, .slice a1 x0.Fields.length c2] 51) ?_ ?_
      · refine cwp_region ?_
        refine lwp_run 1 (by kernel_rfl) ?_
        refine lwp_op (by kernel_rfl) (owp_load (by kernel_rfl) (by kernel_rfl) (o23.cell (off := 0) rfl) ?_)
        obtain ⟨t25, m26, H⟩ := bind_some H
        refine lwp_op (by kernel_rfl) (owp_callF (by kernel_rfl) (attr_Bare.calls (I := I19) pt20.bd m26) ?_)
        rintro v27 h28 ⟨_, rfl, rfl⟩
        cases t25
        · rw [cond_false] at H
          refine lwp_run 1 (by kernel_rfl) ?_
          refine lwp_nil ?_
          exact ⟨false, I19, H, ⟨by kernel_rfl, by kernel_rfl, by kernel_rfl, trivial⟩, pt20, r22, o23⟩
        · rw [cond_true] at H
          refine lwp_run 1 (by kernel_rfl) ?_
          refine lwp_nil ?_
          exact ⟨true, I19, H, ⟨by kernel_rfl, by kernel_rfl, by kernel_rfl, trivial⟩, pt20, r22, o23⟩
      · clear H
        rintro ρ' h31 ⟨x34, I32, H, hf, pt33, r35, o36⟩
        refine cwp_fits _ hf ?_
        subst e115
        try dsimp only at H
        cases x34
        · rw [cond_false] at H
          refine cwp_false (by kernel_rfl) ?_
          refine cwp_seq ?_
          refine cwp_region ?_
          refine lwp_run 1 (by kernel_rfl) ?_
          refine lwp_op (by kernel_rfl) (owp_load (by kernel_rfl) (by kernel_rfl) (o36.cell (off := 1) rfl) ?_)
          by_cases c40 : x0.Cursor < 0
          · rw [if_pos c40] at H
            refine lwp_op (by kernel_rfl) (owp_pure ((.bool true)) (pr_bool (by kernel_rfl) (decide_eq_true c40)) ?_)
            refine lwp_run 7 (by kernel_rfl) ?_
            refine lwp_nil ?_
            refine cwp_true (by kernel_rfl) ?_
            refine cwp_seq ?_
            refine cwp_region ?_
            refine lwp_run 2 (by kernel_rfl) ?_
            refine lwp_nil ?_
            refine cwp_ret ?_
            obtain rfl := Option.some.inj H
            show Exists _
            exact ⟨.iface 97 (.int .i64 4), by kernel_rfl, I32, (.iface 97 (.int .i64 4)), rfl, pt33, (show ErrV I32 h31 (GoErr.no 4) (.iface 97 (.int .i64 4)) from rfl)⟩
          · rw [if_neg c40] at H
            refine lwp_op (by kernel_rfl) (owp_pure ((.bool false)) (pr_bool (by kernel_rfl) (decide_eq_false c40)) ?_)
            refine lwp_run 2 (by kernel_rfl) ?_
            refine lwp_op (by kernel_rfl) (owp_load (by kernel_rfl) (by kernel_rfl) (o36.cell (off := 1) rfl) ?_)
            refine lwp_run 1 (by kernel_rfl) ?_
            by_cases c41 : x0.Cursor ≥ x1
            · rw [if_pos c41] at H
              refine lwp_op (by kernel_rfl) (owp_pure ((.bool true)) (pr_bool (by kernel_rfl) (decide_eq_true c41)) ?_)
              refine lwp_run 2 (by kernel_rfl) ?_
              refine lwp_nil ?_
              refine cwp_true (by kernel_rfl) ?_
              refine cwp_seq ?_
              refine cwp_region ?_
              refine lwp_run 2 (by kernel_rfl) ?_
              refine lwp_nil ?_
              refine cwp_ret ?_
              obtain rfl := Option.some.inj H
              show Exists _
              exact ⟨.iface 97 (.int .i64 4), by kernel_rfl, I32, (.iface 97 (.int .i64 4)), rfl, pt33, (show ErrV I32 h31 (GoErr.no 4) (.iface 97 (.int .i64 4)) from rfl)⟩
            · rw [if_neg c41] at H
              refine lwp_op (by kernel_rfl) (owp_pure ((.bool false)) (pr_bool (by kernel_rfl) (decide_eq_false c41)) ?_)
              refine lwp_run 2 (by kernel_rfl) ?_
              refine lwp_nil ?_
              refine cwp_false (by kernel_rfl) ?_
              refine cwp_skip ?_
              refine cwp_seq ?_
              refine cwp_seq ?_
              refine cwp_region ?_
              refine lwp_run 1 (by kernel_rfl) ?_
              refine lwp_op (by kernel_rfl) (owp_load (by kernel_rfl) (by kernel_rfl) (o36.cell (off := 2) rfl) ?_)
              refine lwp_run 2 (by kernel_rfl) ?_
              refine lwp_nil ?_
              refine cwp_block ?_
              obtain ⟨s49, m55, HR56⟩ := bind_some H
              refine cwp_loopE 1 (fun ρ' h50 => ∃ (I51 : Gh), Sum.inr () = s49 ∧ Fits [] ρ' ∧ Pst No I h I51 h50 ∧ Rd t_api_Entry (Or2 I51 B) h50 a1 c2 x0.Fields ∧ OwnB I51 h50 b5 [.int .u8 x0.Aid, .int .i64 x0.Cursor, .slice a1 x0.Fields.length c2] 51) ?_ ?_
              · refine cwp_loop (fun k' ρ' h42 => ∃ (x46 : Int) (I43 : Gh), input_Right.l1.m K x0 x1 k' x46 = some s49 ∧ Fits [(1, .int .i64 x1), (2, .pointer (some ⟨b5, 0, none⟩)), (40, .slice a1 x0.Fields.length c2), (41, .int .i64 (x0.Fields.length : Int)), (42, .int .i64 x46)] ρ' ∧ Pst No I h I43 h42 ∧ Rd t_api_Entry (Or2 I43 B) h42 a1 c2 x0.Fields ∧ OwnB I43 h42 b5 [.int .u8 x0.Aid, .int .i64 x0.Cursor, .slice a1 x0.Fields.length c2] 51) K ⟨0, I32, m55, ⟨by kernel_rfl, by kernel_rfl, by kernel_rfl, by kernel_rfl, by kernel_rfl, trivial⟩, pt33, r35, o36⟩ ?_
                clear m55
                rintro k' ρ' h42 ⟨x46, I43, H, hf, pt44, r45, o47⟩
                cases k' with
                | zero => cases H
                | succ k =>
                  rw [input_Right.l1.m] at H
                  refine cwp_fits _ hf ?_
                  obtain ⟨j64, e114, H⟩ := letJ_some H
                  refine cwp_join (fun ρ' h58 => ∃ (x62 : Bool) (I59 : Gh), j64 x62 = some s49 ∧ Fits [(1, .int .i64 x1), (2, .pointer (some ⟨b5, 0, none⟩)), (40, .slice a1 x0.Fields.length c2), (41, .int .i64 (x0.Fields.length : Int)), (42, .int .i64 x46), (43, .bool x62)] ρ' ∧ Pst No I h I59 h58 ∧ Rd t_api_Entry (Or2 I59 B) h58 a1 c2 x0.Fields ∧ OwnB I59 h58 b5 [.int .u8 x0.Aid, .int .i64 x0.Cursor, .slice a1 x0.Fields.length c2] 51) ?_ ?_
                  · refine cwp_region ?_
                    by_cases c57 : x46 < (x0.Fields.length : Int)
                    · rw [if_pos c57] at H
                      refine lwp_op (by kernel_rfl) (owp_pure ((.bool true)) (pr_bool (by kernel_rfl) (decide_eq_true c57)) ?_)
                      refine lwp_nil ?_
                      exact ⟨true, I43, H, ⟨by kernel_rfl, by kernel_rfl, by kernel_rfl, by kernel_rfl, by kernel_rfl, by kernel_rfl, trivial⟩, pt44, r45, o47⟩
                    · rw [if_neg c57] at H
                      refine lwp_op (by kernel_rfl) (owp_pure ((.bool false)) (pr_bool (by kernel_rfl) (decide_eq_false c57)) ?_)
                      refine lwp_nil ?_
                      exact ⟨false, I43, H, ⟨by kernel_rfl, by kernel_rfl, by kernel_rfl, by kernel_rfl, by kernel_rfl, by kernel_rfl, trivial⟩, pt44, r45, o47⟩
                  · clear H
                    rintro ρ' h58 ⟨x62, I59, H, hf, pt60, r61, o63⟩
                    refine cwp_fits _ hf ?_
                    subst e114
                    try dsimp only at H
                    refine cwp_seq ?_
                    cases x62
                    · rw [cond_false] at H
                      refine cwp_false (by kernel_rfl) ?_
                      refine cwp_exit ?_
                      obtain rfl := Option.some.inj H
                      show Exists _
                      exact ⟨I59, rfl, trivial, pt60, r61, o63⟩
                    · rw [cond_true] at H
                      refine cwp_true (by kernel_rfl) ?_
                      refine cwp_skip ?_
                      refine cwp_seq ?_
                      refine cwp_block ?_
                      refine cwp_seq ?_
                      refine cwp_region ?_
                      obtain ⟨c65, H⟩ := guard_pos H
                      obtain ⟨c66, H⟩ := guard_pos H
                      refine lwp_run 1 (by kernel_rfl) ?_
                      have hs67 := (r61.toSl).isSome c65 c66
                      refine lwp_op (by kernel_rfl) (owp_pure (elemPtr a1 (x46.toNat * 2)) (pr_indexElem (e := 62) (r61.toSl) (k := .i64) (by kernel_rfl) (by kernel_rfl) (by kernel_rfl) (by kernel_rfl) c65 c66) ?_)
                      obtain ⟨cs68, hs69, rp70⟩ := (r61.toSl).seg c65 c66
                      obtain ⟨a71, c72, rfl, r74⟩ := t_api_Entry.open_ rp70
                      refine lwp_op (by kernel_rfl) (owp_loadN (by kernel_rfl) (by kernel_rfl) (by kernel_rfl) hs69 ?_)
                      refine lwp_op (by kernel_rfl) (owp_alloc [.int .i64 0, .slice none 0 0] (.agg #[.int .i64 0, .slice none 0 0]) pt60.bd (by kernel_rfl) (by kernel_rfl) ?_)
                      intro b75 h76 hc77 p78 o79
                      have pt80 := pt60.no p78
                      have fr81 : No b75 ∨ h.size ≤ b75 := .inr (Nat.le_trans pt60.size hc77)
                      have d82 := ne_new o63.lt hc77
                      refine lwp_run 1 (by kernel_rfl) ?_
                      refine lwp_op (by kernel_rfl) (owp_storeN 0 [.int .i64 ((at_ x0.Fields x46).Addr), .slice a71 (((at_ x0.Fields x46).Text).length) c72] p78.bd o79 (by kernel_rfl) (by kernel_rfl) (by simp [Value.oneCell']) (by kernel_rfl) (Nat.le_of_ble_eq_true rfl) ?_)
                      intro h83 p84 o85
                      have pt86 := pt80.own p84 (one_nw fr81)
                      refine lwp_nil ?_
                      refine cwp_seq ?_
                      refine cwp_region ?_
                      refine lwp_op (by kernel_rfl) (owp_loadN (by kernel_rfl) (by kernel_rfl) (by kernel_rfl) (o85.seg_ 0 2 (Nat.le_of_ble_eq_true rfl)) ?_)
                      refine lwp_run 1 (by kernel_rfl) ?_
                      have f87 := o63.post p78 (fun x => x.elim)
                      have f88 := f87.post p84 (fun e => d82 e.symm)
                      refine lwp_op (by kernel_rfl) (owp_load (by kernel_rfl) (by kernel_rfl) (f88.cell (off := 2) rfl) ?_)
                      refine lwp_run 3 (by kernel_rfl) ?_
                      have f89 := r74.up (upOr (p78.up pt60.bd (fun _ x => x.elim)) (keepB p78 (hBB.mono pt60.size) (fun _ x => x.elim)))
                      have f90 := f89.up (upOr (p84.up p78.bd (one_not o79.no)) (keepB p84 (hBB.mono pt80.size) (nwB (one_nw fr81) (fun _ x => x.elim) hBB)))
                      obtain ⟨t91, m92, H⟩ := bind_some H
                      refine lwp_op (by kernel_rfl) (owp_callF (by kernel_rfl) (input_field.calls (I := I59) (B := (Or2 I59 B)) p84.bd (bdOr p84.bd (hBB.mono pt86.size)) (Rd.mono (I' := Or2 I59 (Or2 I59 B)) f90 (fun _ x => Or.inr x)) m92) ?_)
                      rintro v93 h94 ⟨I95, v97, rfl, p96, q99⟩
                      have pt100 := pt86.no p96
                      refine lwp_run 1 (by kernel_rfl) ?_
                      refine lwp_nil ?_
                      refine cwp_seq ?_
                      refine cwp_region ?_
                      refine lwp_run 1 (by kernel_rfl) ?_
                      rcases q99.cases with ⟨c101, rfl⟩ | ⟨c101, t102, u103, rfl⟩
                      · rw [if_pos c101] at H
                        refine lwp_run 1 (by kernel_rfl) ?_
                        refine lwp_nil ?_
                        refine cwp_false (by kernel_rfl) ?_
                        refine cwp_skip ?_
                        refine cwp_region ?_
                        refine lwp_run 2 (by kernel_rfl) ?_
                        refine lwp_nil ?_
                        have f100003 := r61.up (upOr (p78.up pt60.bd (fun _ x => x.elim)) (keepB p78 (hBB.mono pt60.size) (fun _ x => x.elim)))
                        have f100004 := f100003.up (upOr (p84.up p78.bd (one_not o79.no)) (keepB p84 (hBB.mono pt80.size) (nwB (one_nw fr81) (fun _ x => x.elim) hBB)))
                        have f100005 := f100004.up (upOr (p96.up p84.bd (fun _ x => x.elim)) (keepB p96 (hBB.mono pt86.size) (fun _ x => x.elim)))
                        have f100006 := f88.post p96 (fun x => x.elim)
                        show Exists _
                        exact ⟨k, Nat.lt_succ_self _, (w64 (x46 + 1)), I95, H, ⟨by kernel_rfl, by kernel_rfl, by kernel_rfl, by kernel_rfl, by kernel_rfl, trivial⟩, pt100, f100005, f100006⟩
                      · rw [if_neg c101] at H
                        refine lwp_run 1 (by kernel_rfl) ?_
                        refine lwp_nil ?_
                        refine cwp_true (by kernel_rfl) ?_
                        refine cwp_seq ?_
                        refine cwp_region ?_
                        refine lwp_run 2 (by kernel_rfl) ?_
                        obtain ⟨t104, m105, H⟩ := bind_some H
                        refine lwp_op (by kernel_rfl) (owp_callF (by kernel_rfl) (input_spot.calls (I := I95) p96.bd q99 m105) ?_)
                        rintro v106 h107 ⟨I108, v110, rfl, p109, q112⟩
                        have pt113 := pt100.no p109
                        refine lwp_run 1 (by kernel_rfl) ?_
                        refine lwp_nil ?_
                        refine cwp_ret ?_
                        obtain rfl := Option.some.inj H
                        obtain rfl := Option.some.inj HR56
                        show Exists _
                        exact ⟨v110, by kernel_rfl, I108, (v110), rfl, pt113, q112⟩
              · rintro ρ' h50 ⟨I51, rfl, hf, pt52, r53, o54⟩
                have H := HR56
                try dsimp only at H
                refine cwp_fits _ hf ?_
                refine cwp_seq ?_
                refine cwp_region ?_
                refine lwp_run 1 (by kernel_rfl) ?_
                refine lwp_nil ?_
                refine cwp_ret ?_
                obtain rfl := Option.some.inj H
                show Exists _
                exact ⟨.nilIface, by kernel_rfl, I51, (.nilIface), rfl, pt52, (show ErrV I51 h50 GoErr.nil .nilIface from rfl)⟩
        · rw [cond_true] at H
          refine cwp_true (by kernel_rfl) ?_
          refine cwp_seq ?_
          refine cwp_seq ?_
          refine cwp_region ?_
          refine lwp_run 1 (by kernel_rfl) ?_
          refine lwp_op (by kernel_rfl) (owp_load (by kernel_rfl) (by kernel_rfl) (o36.cell (off := 1) rfl) ?_)
          by_cases c38 : x0.Cursor = 0
          · rw [if_pos c38] at H
            refine lwp_op (by kernel_rfl) (owp_pure ((.bool false)) (pr_bool (by kernel_rfl) (neF c38)) ?_)
            refine lwp_run 2 (by kernel_rfl) ?_
            refine lwp_op (by kernel_rfl) (owp_load (by kernel_rfl) (by kernel_rfl) (o36.cell (off := 2) rfl) ?_)
            refine lwp_run 1 (by kernel_rfl) ?_
            by_cases c39 : (x0.Fields.length : Int) > 0
            · rw [if_pos c39] at H
              refine lwp_op (by kernel_rfl) (owp_pure ((.bool true)) (pr_bool (by kernel_rfl) (decide_eq_true c39)) ?_)
              refine lwp_run 1 (by kernel_rfl) ?_
              refine lwp_nil ?_
              refine cwp_true (by kernel_rfl) ?_
              refine cwp_seq ?_
              refine cwp_region ?_
              refine lwp_run 2 (by kernel_rfl) ?_
              refine lwp_nil ?_
              refine cwp_ret ?_
              obtain rfl := Option.some.inj H
              show Exists _
              exact ⟨.iface 97 (.int .i64 1), by kernel_rfl, I32, (.iface 97 (.int .i64 1)), rfl, pt33, (show ErrV I32 h31 (GoErr.no 1) (.iface 97 (.int .i64 1)) from rfl)⟩
            · rw [if_neg c39] at H
              refine lwp_op (by kernel_rfl) (owp_pure ((.bool false)) (pr_bool (by kernel_rfl) (decide_eq_false c39)) ?_)
              refine lwp_run 1 (by kernel_rfl) ?_
              refine lwp_nil ?_
              refine cwp_false (by kernel_rfl) ?_
              refine cwp_skip ?_
              refine cwp_seq ?_
              refine cwp_region ?_
              refine lwp_run 1 (by kernel_rfl) ?_
              refine lwp_nil ?_
              refine cwp_ret ?_
              obtain rfl := Option.some.inj H
              show Exists _
              exact ⟨.nilIface, by kernel_rfl, I32, (.nilIface), rfl, pt33, (show ErrV I32 h31 GoErr.nil .nilIface from rfl)⟩
          · rw [if_neg c38] at H
            refine lwp_op (by kernel_rfl) (owp_pure ((.bool true)) (pr_bool (by kernel_rfl) (neT c38)) ?_)
            refine lwp_run 6 (by kernel_rfl) ?_
            refine lwp_nil ?_
            refine cwp_true (by kernel_rfl) ?_
            refine cwp_seq ?_
            refine cwp_region ?_
            refine lwp_run 2 (by kernel_rfl) ?_
            refine lwp_nil ?_
            refine cwp_ret ?_
            obtain rfl := Option.some.inj H
            show Exists _
            exact ⟨.iface 97 (.int .i64 1), by kernel_rfl, I32, (.iface 97 (.int .i64 1)), rfl, pt33, (show ErrV I32 h31 (GoErr.no 1) (.iface 97 (.int .i64 1)) from rfl)⟩
    · rw [cond_true] at H
      refine cwp_true (by kernel_rfl) ?_
      refine cwp_seq ?_
      refine cwp_region ?_
      refine lwp_run 2 (by kernel_rfl) ?_
      refine lwp_nil ?_
      refine cwp_ret ?_
      obtain rfl := Option.some.inj H
      show Exists _
      exact ⟨.iface 97 (.int .i64 3), by kernel_rfl, I19, (.iface 97 (.int .i64 3)), rfl, pt20, (show ErrV I19 h18 (GoErr.no 3) (.iface 97 (.int .i64 3)) from rfl)⟩

end Go.Proofs.YtlomgckbmdjmhaaDoor.Sx
