/- Printed walks, part 6: each function's model, and that the code comes to it. -/
import Derived.Test.YtfbcjibdgicaoaaGreatDoorProg
import Derived.Test.YtfbcjibdgicaoaaGreatDoorV4
import Derived.Test.YtfbcjibdgicaoaaGreatDoorVF
import Derived.Test.YtfbcjibdgicaoaaGreatDoorV6
import Derived.Test.YtfbcjibdgicaoaaGreatDoorV7
import Derived.Test.YtfbcjibdgicaoaaGreatDoorG5
namespace Go.Proofs.YtfbcjibdgicaoaaGreatDoor.Sx
open Go
set_option maxRecDepth 100000
set_option maxHeartbeats 4000000

/-! shutter/order.Get -/
def order_Get.m (K : Nat) (x0 : bytes_Cursor) (x1 : Int) : Option (api_Order × bytes_Cursor) :=
  (letJ (α := Int → Bool → (List Int) → Int → GoErr → Option (api_Order × bytes_Cursor)) (fun (x36 : Int) (x37 : Bool) (x38 : List Int) (x43 : Int) (x44 : GoErr) => (bif x37 then ((attr_Char.m x36).bind fun t49 => bif t49 then ((bytes_Cursor_Chars.m K (⟨x38, x43, x44⟩ : bytes_Cursor)).bind fun t50 => (some ((⟨1, t50.1, (⟨false, false, 0, false⟩ : api_Attr), 0, 0⟩ : api_Order), t50.2))) else ((order_kind.m K x36).bind fun t61 => (if t61 = 0 then ((bytes_Cursor_Fail.m (⟨x38, x43, x44⟩ : bytes_Cursor) (GoErr.no 5)).bind fun t64 => (some ((⟨0, [], (⟨false, false, 0, false⟩ : api_Attr), 0, 0⟩ : api_Order), (⟨x38, t64.at', t64.err'⟩ : bytes_Cursor)))) else ((bytes_Cursor_Byte.m (⟨x38, x43, x44⟩ : bytes_Cursor)).bind fun t67 => (letJ (α := (List Int) → Int → GoErr → Bool → Bool → Int → Bool → Int → Option (api_Order × bytes_Cursor)) (fun (x109 : List Int) (x114 : Int) (x115 : GoErr) (x118 : Bool) (x119 : Bool) (x120 : Int) (x121 : Bool) (x122 : Int) => (letJ (α := (List Int) → Int → GoErr → Int → Option (api_Order × bytes_Cursor)) (fun (x132 : List Int) (x137 : Int) (x138 : GoErr) (x141 : Int) => ((bytes_Cursor_Err.m (⟨x132, x137, x138⟩ : bytes_Cursor)).bind fun t143 => (if t143.1 = GoErr.nil then (some ((⟨t61, [], (⟨x118, x119, x120, x121⟩ : api_Attr), x122, x141⟩ : api_Order), (⟨x132, t143.2.at', t143.2.err'⟩ : bytes_Cursor))) else (some ((⟨0, [], (⟨false, false, 0, false⟩ : api_Attr), 0, 0⟩ : api_Order), (⟨x132, t143.2.at', t143.2.err'⟩ : bytes_Cursor)))))) fun (j142 : (List Int) → Int → GoErr → Int → Option (api_Order × bytes_Cursor)) => (if t61 = 6 then ((order_char.m (⟨x109, x114, x115⟩ : bytes_Cursor)).bind fun t125 => (j142 t125.2.b' t125.2.at' t125.2.err' t125.1)) else (j142 x109 x114 x115 0)))) fun (j123 : (List Int) → Int → GoErr → Bool → Bool → Int → Bool → Int → Option (api_Order × bytes_Cursor)) => (letJ (α := Bool → Option (api_Order × bytes_Cursor)) (fun (x75 : Bool) => (bif x75 then ((order_start.m t67.2).bind fun t77 => (j123 t77.2.b' t77.2.at' t77.2.err' t77.1.Protected t77.1.Numeric t77.1.Show t77.1.Modified 0)) else (if t61 = 6 then ((bytes_Cursor_Addr.m K t67.2 x1).bind fun t85 => (j123 t85.2.b' t85.2.at' t85.2.err' false false 0 false t85.1)) else (if t61 = 3 then ((bytes_Cursor_Addr.m K t67.2 x1).bind fun t93 => (j123 t93.2.b' t93.2.at' t93.2.err' false false 0 false t93.1)) else (if t61 = 7 then ((bytes_Cursor_Addr.m K t67.2 x1).bind fun t101 => (j123 t101.2.b' t101.2.at' t101.2.err' false false 0 false t101.1)) else (j123 t67.2.b' t67.2.at' t67.2.err' false false 0 false 0)))))) fun (j76 : Bool → Option (api_Order × bytes_Cursor)) => (if t61 = 2 then (j76 true) else (j76 false)))))))) else ((bytes_Cursor_Fail.m (⟨x38, x43, x44⟩ : bytes_Cursor) (GoErr.no 2)).bind fun t153 => (some ((⟨0, [], (⟨false, false, 0, false⟩ : api_Attr), 0, 0⟩ : api_Order), (⟨x38, t153.at', t153.err'⟩ : bytes_Cursor)))))) fun (j47 : Int → Bool → (List Int) → Int → GoErr → Option (api_Order × bytes_Cursor)) => ((bytes_Cursor_Peek.m x0).bind fun t28 => (bif t28.2.1 then (j47 t28.1 true t28.2.2.b' t28.2.2.at' t28.2.2.err') else (j47 t28.1 false t28.2.2.b' t28.2.2.at' t28.2.2.err'))))

theorem order_Get.calls {B I : Gh} {h : Heap} {K : Nat} {x0 : bytes_Cursor} {x1 : Int} {b0 : Nat} {a21 : Option Addr} {p22 : Nat} {n23 : Nat} {v25 : Value} {r : (api_Order × bytes_Cursor)} (H : order_Get.m K x0 x1 = some r)  :
    Fc Tryz.prog 65 #[.pointer (some ⟨b0, 0, none⟩), .int .i64 x1] [rB b0 [.slice a21 n23 p22, .int .i64 x0.at', v25] 139, rR (tInt .u8) .i a21 p22 n23 x0.b', rE .i v25 x0.err'] B I h (fun v L => ∃ (a157 : Option Addr) (p158 : Nat) (n159 : Nat) (a161 : Option Addr) (p162 : Nat) (n163 : Nat) (v165 : Value), v = .agg #[.int .i64 r.1.Kind, .slice a157 n159 p158, .bool r.1.Attr.Protected, .bool r.1.Attr.Numeric, .int .i64 r.1.Attr.Show, .bool r.1.Attr.Modified, .int .i64 r.1.Addr, .int .u8 r.1.Char] ∧ L = [rO (tInt .u8) .i a157 p158 n159 r.1.Text, rB b0 [.slice a161 n163 p162, .int .i64 r.2.at', v165] 139, rR (tInt .u8) .i a161 p162 n163 r.2.b', rE .i v165 r.2.err']) := by
 refine fc_of fun E hs => ?_
 unfold order_Get.m at H
 obtain rfl := hs.nR d1
 refine fn_of2 (args := [.pointer (some ⟨b0, 0, none⟩), .int .i64 x1]) (rs := [.cell 4 76]) (N := 62) Tryz.func65 rfl rfl rfl rfl ?_
 refine st 2 [] (k_op (nA hs [.int .i64 0, .slice none 0 0, .bool false, .bool false, .int .i64 0, .bool false, .int .i64 0, .int .u8 0] (.agg #[.int .i64 0, .slice none 0 0, .bool false, .bool false, .int .i64 0, .bool false, .int .i64 0, .int .u8 0]) ?_))
 intro b27 h hs
 refine st 2 [] ?_
 obtain ⟨j47, e156, H⟩ := letJ_some H
 refine k_join (fun ρ h => ∃ (x36 : Int) (x37 : Bool) (x38 : List Int) (x43 : Int) (x44 : GoErr) (a39 : Option Addr) (p40 : Nat) (n41 : Nat) (v45 : Value) (I : Gh), j47 x36 x37 x38 x43 x44 = some r ∧ Fits [(0, .pointer (some ⟨b0, 0, none⟩)), (1, .int .i64 x1), (4, .pointer (some ⟨b27, 0, none⟩)), (5, .int .u8 x36), (6, .bool x37)] ρ ∧ St E [rR (tInt .u8) .i a39 p40 n41 x38, rE .i v45 x44, rB b0 [.slice a39 n41 p40, .int .i64 x43, v45] 139, rB b27 [.int .i64 0, .slice none 0 0, .bool false, .bool false, .int .i64 0, .bool false, .int .i64 0, .int .u8 0] 76] I h) ?_ ?_
 ·obtain ⟨hk, bk⟩ := (hs.f d1).call tk1 (.c (qK d1) (.c (xK d2) .n))
  refine st 2 [] (k_call H (fun _ m => bytes_Cursor_Peek.calls m hk) ?_)
  rintro t28 _ h H ⟨I, _, ⟨a29, p30, n31, v33, rfl, rfl⟩, hk⟩
  replace hs := bk hk ct3 rfl
  obtain rfl := hs.nR d1
  refine st 2 [] (k_if H (fun c35 H => ?_) (fun c35 H => ?_))
  ·refine st 3 [] ?_
   exact k_end ⟨t28.1, true, t28.2.2.b', t28.2.2.at', t28.2.2.err', a29, p30, t28.2.2.b'.length, v33, I, H, ⟨by kernel_rfl, by kernel_rfl, by kernel_rfl, by kernel_rfl, by kernel_rfl, trivial⟩, hs.pk (.c d1 (.c d1 (.c d0 (.c d0 .n))))⟩
  ·refine st 3 [] ?_
   exact k_end ⟨t28.1, false, t28.2.2.b', t28.2.2.at', t28.2.2.err', a29, p30, t28.2.2.b'.length, v33, I, H, ⟨by kernel_rfl, by kernel_rfl, by kernel_rfl, by kernel_rfl, by kernel_rfl, trivial⟩, hs.pk (.c d1 (.c d1 (.c d0 (.c d0 .n))))⟩
 ·clear H
  rintro ρ h ⟨x36, x37, x38, x43, x44, a39, p40, n41, v45, I, H, hf, hs⟩
  refine k_fits _ hf ?_ rfl
  subst e156
  try dsimp only at H
  obtain rfl := hs.nR d0
  refine st 3 [] (k_if H (fun c48 H => ?_) (fun c48 H => ?_))
  ·refine st 8 [false] (k_call H (fun _ m => attr_Char.calls m) ?_)
   rintro t49 _ _ H ⟨rfl, rfl⟩
   cases t49
   ·rw [cond_false] at H
    refine st 6 [false] (k_call H (fun _ m => order_kind.calls m) ?_)
    rintro t61 _ _ H ⟨rfl, rfl⟩
    refine st 1 [] (k_op (nA hs [.int .i64 0, .slice none 0 0, .bool false, .bool false, .int .i64 0, .bool false, .int .i64 0, .int .u8 0] (.agg #[.int .i64 0, .slice none 0 0, .bool false, .bool false, .int .i64 0, .bool false, .int .i64 0, .int .u8 0]) ?_))
    intro b62 h hs
    refine k_op (sN hs 0 [.int .i64 t61, .slice none 0 0, .bool false, .bool false, .int .i64 0, .bool false, .int .i64 0, .int .u8 0] [.int .i64 t61, .slice none 0 0, .bool false, .bool false, .int .i64 0, .bool false, .int .i64 0, .int .u8 0] (ones_of rfl) ?_)
    intro h hs
    refine st 5 [] (k_op (lB (hs.bl d0) 0 rfl ?_))
    refine k_ite H (fun c63 H => ?_) (fun c63 H => ?_)
    ·obtain ⟨hk, bk⟩ := (hs.f d3).call tk1 (.c (xK d2) (.c xC .n))
     refine st 6 [true] (k_call H (fun _ m => bytes_Cursor_Fail.calls m hk) ?_)
     rintro t64 _ h H ⟨I, _, ⟨v65, rfl, rfl⟩, hk⟩
     replace hs := bk hk ct2 rfl
     refine st 4 [] (k_op (sN (hs.f d5) 0 [.int .i64 0, .slice none 0 0, .bool false, .bool false, .int .i64 0, .bool false, .int .i64 0, .int .u8 0] [.int .i64 0, .slice none 0 0, .bool false, .bool false, .int .i64 0, .bool false, .int .i64 0, .int .u8 0] (ones_of rfl) ?_))
     intro h hs
     refine st 1 [] ?_
     refine k_retQ ?_
     obtain rfl := Option.some.inj H
     exact ⟨[.agg #[.int .i64 0, .slice none 0 0, .bool false, .bool false, .int .i64 0, .bool false, .int .i64 0, .int .u8 0]], (.cons (.agg (by kernel_rfl) (by kernel_rfl) (by kernel_rfl) ((hs.bl d0).seg_ 0 8 (Nat.le_of_ble_eq_true rfl))) .nil), I, _, ⟨none, 0, 0, a39, p40, x38.length, (v65), rfl, rfl⟩, hs.pk (.f imON (.c d1 (.c d3 (.c d1 .n))))⟩
    ·obtain ⟨hk, bk⟩ := (hs.f d3).call tk1 (.c (qK d1) (.c (xK d2) .n))
     refine st 6 [false] (k_call H (fun _ m => bytes_Cursor_Byte.calls m hk) ?_)
     rintro t67 _ h H ⟨I, _, ⟨a68, p69, n70, v72, rfl, rfl⟩, hk⟩
     replace hs := bk hk ct3 rfl
     obtain rfl := hs.nR d1
     refine st 2 [] ?_
     obtain ⟨j123, e152, H⟩ := letJ_some H
     refine k_join (fun ρ h => ∃ (x109 : List Int) (x114 : Int) (x115 : GoErr) (x118 : Bool) (x119 : Bool) (x120 : Int) (x121 : Bool) (x122 : Int) (a110 : Option Addr) (p111 : Nat) (n112 : Nat) (v116 : Value) (I : Gh), j123 x109 x114 x115 x118 x119 x120 x121 x122 = some r ∧ Fits [(0, .pointer (some ⟨b0, 0, none⟩)), (4, .pointer (some ⟨b27, 0, none⟩)), (7, .pointer (some ⟨b62, 0, none⟩))] ρ ∧ St E [rR (tInt .u8) .i a110 p111 n112 x109, rE .i v116 x115, rB b0 [.slice a110 n112 p111, .int .i64 x114, v116] 139, rB b27 [.int .i64 0, .slice none 0 0, .bool false, .bool false, .int .i64 0, .bool false, .int .i64 0, .int .u8 0] 76, rB b62 [.int .i64 t61, .slice none 0 0, .bool x118, .bool x119, .int .i64 x120, .bool x121, .int .i64 x122, .int .u8 0] 76] I h) ?_ ?_
     ·refine st 3 [] (k_op (lB (hs.bl d3) 0 rfl ?_))
      refine st 3 [] ?_
      obtain ⟨j76, e108, H⟩ := letJ_some H
      refine k_join (fun ρ h => ∃ (x75 : Bool) (I : Gh), j76 x75 = some r ∧ Fits [(0, .pointer (some ⟨b0, 0, none⟩)), (1, .int .i64 x1), (4, .pointer (some ⟨b27, 0, none⟩)), (7, .pointer (some ⟨b62, 0, none⟩)), (37, .int .i64 t61), (38, .bool x75)] ρ ∧ St E [rR (tInt .u8) .i a68 p69 t67.2.b'.length t67.2.b', rE .i v72 t67.2.err', rB b0 [.slice a68 t67.2.b'.length p69, .int .i64 t67.2.at', v72] 139, rB b27 [.int .i64 0, .slice none 0 0, .bool false, .bool false, .int .i64 0, .bool false, .int .i64 0, .int .u8 0] 76, rB b62 [.int .i64 t61, .slice none 0 0, .bool false, .bool false, .int .i64 0, .bool false, .int .i64 0, .int .u8 0] 76] I h) ?_ ?_
      ·refine st 1 [] (k_ite H (fun c74 H => ?_) (fun c74 H => ?_))
       ·refine st 2 [] ?_
        exact k_end ⟨true, I, H, ⟨by kernel_rfl, by kernel_rfl, by kernel_rfl, by kernel_rfl, by kernel_rfl, by kernel_rfl, trivial⟩, hs.pk (.c d1 (.c d1 (.c d0 (.c d3 (.c d0 .n)))))⟩
       ·refine st 2 [] ?_
        exact k_end ⟨false, I, H, ⟨by kernel_rfl, by kernel_rfl, by kernel_rfl, by kernel_rfl, by kernel_rfl, by kernel_rfl, trivial⟩, hs.pk (.c d1 (.c d1 (.c d0 (.c d3 (.c d0 .n)))))⟩
      ·clear H
       rintro ρ h ⟨x75, I, H, hf, hs⟩
       refine k_fits _ hf ?_ rfl
       subst e108
       try dsimp only at H
       cases x75
       ·rw [cond_false] at H
        refine st 4 [false] (k_ite H (fun c84 H => ?_) (fun c84 H => ?_))
        ·obtain ⟨hk, bk⟩ := (hs.f d2).call tk1 (.c (qK d0) (.c (xK d1) .n))
         refine st 8 [true, true] (k_call H (fun _ m => bytes_Cursor_Addr.calls m hk) ?_)
         rintro t85 _ h H ⟨I, _, ⟨a86, p87, n88, v90, rfl, rfl⟩, hk⟩
         replace hs := bk hk ct3 rfl
         obtain rfl := hs.nR d1
         refine st 1 [] (k_op (sB (v := .int .i64 t85.1) (hs.f d6) cw6 ?_))
         intro h hs
         refine st 2 [] ?_
         exact k_end ⟨t85.2.b', t85.2.at', t85.2.err', false, false, 0, false, t85.1, a86, p87, t85.2.b'.length, v90, I, H, ⟨by kernel_rfl, by kernel_rfl, by kernel_rfl, trivial⟩, hs.pk (.c d2 (.c d2 (.c d1 (.c d3 (.c d0 .n)))))⟩
        ·refine st 5 [false] (k_ite H (fun c92 H => ?_) (fun c92 H => ?_))
         ·obtain ⟨hk, bk⟩ := (hs.f d2).call tk1 (.c (qK d0) (.c (xK d1) .n))
          refine st 8 [true, true] (k_call H (fun _ m => bytes_Cursor_Addr.calls m hk) ?_)
          rintro t93 _ h H ⟨I, _, ⟨a94, p95, n96, v98, rfl, rfl⟩, hk⟩
          replace hs := bk hk ct3 rfl
          obtain rfl := hs.nR d1
          refine st 1 [] (k_op (sB (v := .int .i64 t93.1) (hs.f d6) cw6 ?_))
          intro h hs
          refine st 2 [] ?_
          exact k_end ⟨t93.2.b', t93.2.at', t93.2.err', false, false, 0, false, t93.1, a94, p95, t93.2.b'.length, v98, I, H, ⟨by kernel_rfl, by kernel_rfl, by kernel_rfl, trivial⟩, hs.pk (.c d2 (.c d2 (.c d1 (.c d3 (.c d0 .n)))))⟩
         ·refine st 4 [false] (k_ite H (fun c100 H => ?_) (fun c100 H => ?_))
          ·obtain ⟨hk, bk⟩ := (hs.f d2).call tk1 (.c (qK d0) (.c (xK d1) .n))
           refine st 6 [true] (k_call H (fun _ m => bytes_Cursor_Addr.calls m hk) ?_)
           rintro t101 _ h H ⟨I, _, ⟨a102, p103, n104, v106, rfl, rfl⟩, hk⟩
           replace hs := bk hk ct3 rfl
           obtain rfl := hs.nR d1
           refine st 1 [] (k_op (sB (v := .int .i64 t101.1) (hs.f d6) cw6 ?_))
           intro h hs
           refine st 2 [] ?_
           exact k_end ⟨t101.2.b', t101.2.at', t101.2.err', false, false, 0, false, t101.1, a102, p103, t101.2.b'.length, v106, I, H, ⟨by kernel_rfl, by kernel_rfl, by kernel_rfl, trivial⟩, hs.pk (.c d2 (.c d2 (.c d1 (.c d3 (.c d0 .n)))))⟩
          ·refine st 5 [false] ?_
           exact k_end ⟨t67.2.b', t67.2.at', t67.2.err', false, false, 0, false, 0, a68, p69, t67.2.b'.length, v72, I, H, ⟨by kernel_rfl, by kernel_rfl, by kernel_rfl, trivial⟩, hs.pk (.c d0 (.c d0 (.c d0 (.c d0 (.c d0 .n)))))⟩
       ·rw [cond_true] at H
        obtain ⟨hk, bk⟩ := (hs.f d2).call tk1 (.c (qK d0) (.c (xK d1) .n))
        refine st 3 [true] (k_call H (fun _ m => order_start.calls m hk) ?_)
        rintro t77 _ h H ⟨I, _, ⟨a78, p79, n80, v82, rfl, rfl⟩, hk⟩
        replace hs := bk hk ct3 rfl
        obtain rfl := hs.nR d1
        refine st 1 [] (k_op (sN (hs.f d6) 2 [.bool t77.1.Protected, .bool t77.1.Numeric, .int .i64 t77.1.Show, .bool t77.1.Modified] [.int .i64 t61, .slice none 0 0, .bool t77.1.Protected, .bool t77.1.Numeric, .int .i64 t77.1.Show, .bool t77.1.Modified, .int .i64 0, .int .u8 0] (ones_of rfl) ?_))
        intro h hs
        refine st 2 [] ?_
        exact k_end ⟨t77.2.b', t77.2.at', t77.2.err', t77.1.Protected, t77.1.Numeric, t77.1.Show, t77.1.Modified, 0, a78, p79, t77.2.b'.length, v82, I, H, ⟨by kernel_rfl, by kernel_rfl, by kernel_rfl, trivial⟩, hs.pk (.c d2 (.c d2 (.c d1 (.c d3 (.c d0 .n)))))⟩
     ·clear H
      rintro ρ h ⟨x109, x114, x115, x118, x119, x120, x121, x122, a110, p111, n112, v116, I, H, hf, hs⟩
      refine k_fits _ hf ?_ rfl
      subst e152
      try dsimp only at H
      obtain rfl := hs.nR d0
      refine st 1 [] ?_
      obtain ⟨j142, e151, H⟩ := letJ_some H
      refine k_join (fun ρ h => ∃ (x132 : List Int) (x137 : Int) (x138 : GoErr) (x141 : Int) (a133 : Option Addr) (p134 : Nat) (n135 : Nat) (v139 : Value) (I : Gh), j142 x132 x137 x138 x141 = some r ∧ Fits [(0, .pointer (some ⟨b0, 0, none⟩)), (4, .pointer (some ⟨b27, 0, none⟩)), (7, .pointer (some ⟨b62, 0, none⟩))] ρ ∧ St E [rR (tInt .u8) .i a133 p134 n135 x132, rE .i v139 x138, rB b0 [.slice a133 n135 p134, .int .i64 x137, v139] 139, rB b27 [.int .i64 0, .slice none 0 0, .bool false, .bool false, .int .i64 0, .bool false, .int .i64 0, .int .u8 0] 76, rB b62 [.int .i64 t61, .slice none 0 0, .bool x118, .bool x119, .int .i64 x120, .bool x121, .int .i64 x122, .int .u8 x141] 76] I h) ?_ ?_
      ·refine st 3 [] (k_op (lB (hs.bl d4) 0 rfl ?_))
       refine k_ite H (fun c124 H => ?_) (fun c124 H => ?_)
       ·obtain ⟨hk, bk⟩ := (hs.f d2).call tk1 (.c (qK d0) (.c (xK d1) .n))
        refine st 4 [true] (k_call H (fun _ m => order_char.calls m hk) ?_)
        rintro t125 _ h H ⟨I, _, ⟨a126, p127, n128, v130, rfl, rfl⟩, hk⟩
        replace hs := bk hk ct3 rfl
        obtain rfl := hs.nR d1
        refine st 1 [] (k_op (sB (v := .int .u8 t125.1) (hs.f d6) cw7 ?_))
        intro h hs
        refine st 1 [] ?_
        exact k_end ⟨t125.2.b', t125.2.at', t125.2.err', t125.1, a126, p127, t125.2.b'.length, v130, I, H, ⟨by kernel_rfl, by kernel_rfl, by kernel_rfl, trivial⟩, hs.pk (.c d2 (.c d2 (.c d1 (.c d3 (.c d0 .n)))))⟩
       ·refine st 3 [false] ?_
        exact k_end ⟨x109, x114, x115, 0, a110, p111, x109.length, v116, I, H, ⟨by kernel_rfl, by kernel_rfl, by kernel_rfl, trivial⟩, hs.pk (.c d0 (.c d0 (.c d0 (.c d0 (.c d0 .n)))))⟩
      ·clear H
       rintro ρ h ⟨x132, x137, x138, x141, a133, p134, n135, v139, I, H, hf, hs⟩
       refine k_fits _ hf ?_ rfl
       subst e151
       try dsimp only at H
       obtain rfl := hs.nR d0
       obtain ⟨hk, bk⟩ := (hs.f d2).call tk1 (.c (xK d1) .n)
       refine st 4 [] (k_call H (fun _ m => bytes_Cursor_Err.calls m hk) ?_)
       rintro t143 v144 h H ⟨I, _, ⟨_, v146, rfl, rfl⟩, hk⟩
       replace hs := bk hk ct3 rfl
       rcases (hs.er d0).cases with ⟨c148, rfl⟩ | ⟨c148, t149, u150, rfl⟩
       ·rw [if_pos c148] at H
        refine st 6 [false] (k_op (lN (hs.bl d6) 0 8 ?_))
        refine k_op (sN (hs.f d5) 0 [.int .i64 t61, .slice none 0 0, .bool x118, .bool x119, .int .i64 x120, .bool x121, .int .i64 x122, .int .u8 x141] [.int .i64 t61, .slice none 0 0, .bool x118, .bool x119, .int .i64 x120, .bool x121, .int .i64 x122, .int .u8 x141] (ones_of rfl) ?_)
        intro h hs
        refine st 1 [] ?_
        refine k_retQ ?_
        obtain rfl := Option.some.inj H
        exact ⟨[.agg #[.int .i64 t61, .slice none 0 0, .bool x118, .bool x119, .int .i64 x120, .bool x121, .int .i64 x122, .int .u8 x141]], (.cons (.agg (by kernel_rfl) (by kernel_rfl) (by kernel_rfl) ((hs.bl d0).seg_ 0 8 (Nat.le_of_ble_eq_true rfl))) .nil), I, _, ⟨none, 0, 0, a133, p134, x132.length, (v146), rfl, rfl⟩, hs.pk (.f imON (.c d2 (.c d3 (.c d2 .n))))⟩
       ·rw [if_neg c148] at H
        refine st 6 [true] (k_op (sN (hs.f d5) 0 [.int .i64 0, .slice none 0 0, .bool false, .bool false, .int .i64 0, .bool false, .int .i64 0, .int .u8 0] [.int .i64 0, .slice none 0 0, .bool false, .bool false, .int .i64 0, .bool false, .int .i64 0, .int .u8 0] (ones_of rfl) ?_))
        intro h hs
        refine st 1 [] ?_
        refine k_retQ ?_
        obtain rfl := Option.some.inj H
        exact ⟨[.agg #[.int .i64 0, .slice none 0 0, .bool false, .bool false, .int .i64 0, .bool false, .int .i64 0, .int .u8 0]], (.cons (.agg (by kernel_rfl) (by kernel_rfl) (by kernel_rfl) ((hs.bl d0).seg_ 0 8 (Nat.le_of_ble_eq_true rfl))) .nil), I, _, ⟨none, 0, 0, a133, p134, x132.length, (v146), rfl, rfl⟩, hs.pk (.f imON (.c d2 (.c d3 (.c d2 .n))))⟩
   ·rw [cond_true] at H
    obtain ⟨hk, bk⟩ := (hs.f d2).call tk1 (.c (qK d0) (.c (xK d1) .n))
    refine st 5 [true] (k_call H (fun _ m => bytes_Cursor_Chars.calls m hk) ?_)
    rintro t50 _ h H ⟨I, _, ⟨a51, p52, n53, a55, p56, n57, v59, rfl, rfl⟩, hk⟩
    replace hs := bk hk ct4 rfl
    obtain rfl := hs.nO d0
    obtain rfl := hs.nR d2
    refine st 1 [] (k_op (sN (hs.f d6) 0 [.int .i64 1, .slice a51 t50.1.length p52, .bool false, .bool false, .int .i64 0, .bool false, .int .i64 0, .int .u8 0] [.int .i64 1, .slice a51 t50.1.length p52, .bool false, .bool false, .int .i64 0, .bool false, .int .i64 0, .int .u8 0] (ones_of rfl) ?_))
    intro h hs
    refine st 1 [] ?_
    refine k_retQ ?_
    obtain rfl := Option.some.inj H
    exact ⟨[.agg #[.int .i64 1, .slice a51 t50.1.length p52, .bool false, .bool false, .int .i64 0, .bool false, .int .i64 0, .int .u8 0]], (.cons (.agg (by kernel_rfl) (by kernel_rfl) (by kernel_rfl) ((hs.bl d0).seg_ 0 8 (Nat.le_of_ble_eq_true rfl))) .nil), I, _, ⟨a51, p52, t50.1.length, a55, p56, t50.2.b'.length, (v59), rfl, rfl⟩, hs.pk (.c d1 (.c d1 (.c d1 (.c d1 .n))))⟩
  ·obtain ⟨hk, bk⟩ := (hs.f d2).call tk1 (.c (xK d1) (.c xC .n))
   refine st 7 [true] (k_call H (fun _ m => bytes_Cursor_Fail.calls m hk) ?_)
   rintro t153 _ h H ⟨I, _, ⟨v154, rfl, rfl⟩, hk⟩
   replace hs := bk hk ct2 rfl
   refine st 4 [] (k_op (sN (hs.f d4) 0 [.int .i64 0, .slice none 0 0, .bool false, .bool false, .int .i64 0, .bool false, .int .i64 0, .int .u8 0] [.int .i64 0, .slice none 0 0, .bool false, .bool false, .int .i64 0, .bool false, .int .i64 0, .int .u8 0] (ones_of rfl) ?_))
   intro h hs
   refine st 1 [] ?_
   refine k_retQ ?_
   obtain rfl := Option.some.inj H
   exact ⟨[.agg #[.int .i64 0, .slice none 0 0, .bool false, .bool false, .int .i64 0, .bool false, .int .i64 0, .int .u8 0]], (.cons (.agg (by kernel_rfl) (by kernel_rfl) (by kernel_rfl) ((hs.bl d0).seg_ 0 8 (Nat.le_of_ble_eq_true rfl))) .nil), I, _, ⟨none, 0, 0, a39, p40, x38.length, (v154), rfl, rfl⟩, hs.pk (.f imON (.c d1 (.c d2 (.c d1 .n))))⟩

/-! shutter/stream.Read -/
def stream_Read.l1.m (K : Nat) (x1 : Int) : Nat → (List Int) → Int → GoErr → Int → Bool → Bool → Bool → (List api_Order) → Option ((List Int) × Int × GoErr × Int × Bool × Bool × Bool × (List api_Order))
  | 0, _, _, _, _, _, _, _, _ => none
  | k + 1, x107, x112, x113, x116, x117, x118, x119, x120 => ((bytes_Cursor_Left.m (⟨x107, x112, x113⟩ : bytes_Cursor)).bind fun t146 => (if t146.1 > 0 then ((bytes_Cursor_Err.m (⟨t146.2.b', t146.2.at', x113⟩ : bytes_Cursor)).bind fun t152 => (if t152.1 = GoErr.nil then ((order_Get.m K (⟨t146.2.b', t152.2.at', t152.2.err'⟩ : bytes_Cursor) x1).bind fun t160 => ((app x120 [t160.1]).bind fun l173 => (stream_Read.l1.m K x1 k t160.2.b' t160.2.at' t160.2.err' x116 x117 x118 x119 l173))) else (some ((t146.2.b', t152.2.at', t152.2.err', x116, x117, x118, x119, x120))))) else (some ((t146.2.b', t146.2.at', x113, x116, x117, x118, x119, x120)))))
def stream_Read.m (K : Nat) (x0 : (List Int)) (x1 : Int) : Option (api_Out × GoErr) :=
  (if (x0.length : Int) > 8192 then ((stream_spot.m 8192 (GoErr.no 6)).bind fun t27 => (some ((⟨0, (⟨false, false, false⟩ : api_Wcc), []⟩ : api_Out), t27))) else ((bytes_New.m x0).bind fun t30 => (letJ (α := Int → Bool → (List Int) → Int → GoErr → Option (api_Out × GoErr)) (fun (x46 : Int) (x47 : Bool) (x48 : List Int) (x53 : Int) (x54 : GoErr) => (letJ (α := Bool → Option (api_Out × GoErr)) (fun (x59 : Bool) => (bif x59 then ((stream_spot.m 0 (GoErr.no 2)).bind fun t61 => (some ((⟨0, (⟨false, false, false⟩ : api_Wcc), []⟩ : api_Out), t61))) else ((stream_known.m (w64 (x46))).bind fun t64 => bif t64 then ((bytes_Cursor_Byte.m (⟨x48, x53, x54⟩ : bytes_Cursor)).bind fun t65 => (letJ (α := Bool → Option (api_Out × GoErr)) (fun (x74 : Bool) => (bif x74 then ((bytes_Cursor_Left.m t65.2).bind fun t76 => (if t76.1 > 0 then ((stream_spot.m 1 (GoErr.no 1)).bind fun t82 => (some ((⟨0, (⟨false, false, false⟩ : api_Wcc), []⟩ : api_Out), t82))) else (some ((⟨(w64 (t65.1)), (⟨false, false, false⟩ : api_Wcc), []⟩ : api_Out), GoErr.nil)))) else ((bytes_Cursor_Byte.m t65.2).bind fun t85 => ((bytes_Cursor_Err.m t85.2).bind fun t92 => (if t92.1 = GoErr.nil then ((attr_GetWcc.m t85.1).bind fun t100 => (if t100.2 = GoErr.nil then (letJ (α := (List Int) → Int → GoErr → Int → Bool → Bool → Bool → (List api_Order) → Option (api_Out × GoErr)) (fun (x157 : List Int) (x162 : Int) (x163 : GoErr) (x166 : Int) (x167 : Bool) (x168 : Bool) (x169 : Bool) (x170 : List api_Order) => ((bytes_Cursor_Err.m (⟨x157, x162, x163⟩ : bytes_Cursor)).bind fun t176 => (if t176.1 = GoErr.nil then (some ((⟨x166, (⟨x167, x168, x169⟩ : api_Wcc), x170⟩ : api_Out), GoErr.nil)) else ((bytes_Cursor_Err.m (⟨x157, t176.2.at', t176.2.err'⟩ : bytes_Cursor)).bind fun t184 => (some ((⟨0, (⟨false, false, false⟩ : api_Wcc), []⟩ : api_Out), t184.1)))))) fun (j175 : (List Int) → Int → GoErr → Int → Bool → Bool → Bool → (List api_Order) → Option (api_Out × GoErr)) => ((stream_Read.l1.m K x1 K t85.2.b' t92.2.at' t92.2.err' (w64 (t65.1)) t100.1.Alarm t100.1.Unlock t100.1.Reset []).bind fun (x126, x131, x132, x135, x136, x137, x138, x139) => (j175 x126 x131 x132 x135 x136 x137 x138 x139))) else ((stream_spot.m 1 t100.2).bind fun t190 => (some ((⟨0, (⟨false, false, false⟩ : api_Wcc), []⟩ : api_Out), t190))))) else ((bytes_Cursor_Err.m (⟨t85.2.b', t92.2.at', t92.2.err'⟩ : bytes_Cursor)).bind fun t193 => (some ((⟨0, (⟨false, false, false⟩ : api_Wcc), []⟩ : api_Out), t193.1)))))))) fun (j75 : Bool → Option (api_Out × GoErr)) => ((stream_Writes.m (w64 (t65.1))).bind fun t73 => bif t73 then (j75 false) else (j75 true)))) else ((stream_spot.m 0 (GoErr.no 5)).bind fun t199 => (some ((⟨0, (⟨false, false, false⟩ : api_Wcc), []⟩ : api_Out), t199)))))) fun (j60 : Bool → Option (api_Out × GoErr)) => (bif x47 then (j60 false) else (j60 true)))) fun (j57 : Int → Bool → (List Int) → Int → GoErr → Option (api_Out × GoErr)) => ((bytes_Cursor_Peek.m t30).bind fun t38 => (bif t38.2.1 then (j57 t38.1 true t38.2.2.b' t38.2.2.at' t38.2.2.err') else (j57 t38.1 false t38.2.2.b' t38.2.2.at' t38.2.2.err'))))))

theorem stream_Read.calls {B I : Gh} {h : Heap} {K : Nat} {x0 : (List Int)} {x1 : Int} {a21 : Option Addr} {p22 : Nat} {n23 : Nat} {r : (api_Out × GoErr)} (H : stream_Read.m K x0 x1 = some r)  :
    Fc Tryz.prog 21 #[.slice a21 n23 p22, .int .i64 x1] [rR (tInt .u8) .b a21 p22 n23 x0] B I h (fun v L => ∃ (a204 : Option Addr) (p205 : Nat) (n206 : Nat) (v208 : Value), v = .tuple #[.agg #[.int .i64 r.1.Cmd, .bool r.1.Wcc.Alarm, .bool r.1.Wcc.Unlock, .bool r.1.Wcc.Reset, .slice a204 n206 p205], v208] ∧ L = [rO t_api_Order .i a204 p205 n206 r.1.Orders, rE .i v208 r.2]) := by
 refine fc_of fun E hs => ?_
 unfold stream_Read.m at H
 obtain rfl := hs.nR d0
 refine fn_of2 (args := [.slice a21 x0.length p22, .int .i64 x1]) (rs := [.cell 4 39, .tmp 5]) (N := 98) Tryz.func21 rfl rfl rfl rfl ?_
 refine st 2 [] (k_op (nA hs [.int .i64 0, .bool false, .bool false, .bool false, .slice none 0 0] (.agg #[.int .i64 0, .bool false, .bool false, .bool false, .slice none 0 0]) ?_))
 intro b25 h hs
 refine st 7 [] (k_ite H (fun c26 H => ?_) (fun c26 H => ?_))
 ·obtain ⟨hk, bk⟩ := hs.call tk0 (.c xC .n)
  refine st 6 [true] (k_call H (fun _ m => stream_spot.calls m hk) ?_)
  rintro t27 v28 h H ⟨I, _, ⟨_, rfl, rfl⟩, hk⟩
  replace hs := bk hk ct1 rfl
  refine k_op (sN (hs.f d1) 0 [.int .i64 0, .bool false, .bool false, .bool false, .slice none 0 0] [.int .i64 0, .bool false, .bool false, .bool false, .slice none 0 0] (ones_of rfl) ?_)
  intro h hs
  refine st 2 [] ?_
  refine k_retQ ?_
  obtain rfl := Option.some.inj H
  exact ⟨[.agg #[.int .i64 0, .bool false, .bool false, .bool false, .slice none 0 0], v28], (.cons (.agg (by kernel_rfl) (by kernel_rfl) (by kernel_rfl) ((hs.bl d0).seg_ 0 5 (Nat.le_of_ble_eq_true rfl))) (.cons (.tmp (by kernel_rfl)) .nil)), I, _, ⟨none, 0, 0, (v28), rfl, rfl⟩, hs.pk (.f imON (.c d1 .n))⟩
 ·obtain ⟨hk, bk⟩ := hs.call tk0 (.c (qB d1) .n)
  refine st 6 [false] (k_call H (fun _ m => bytes_New.calls m hk) ?_)
  rintro t30 _ h H ⟨I, _, ⟨b31, a32, p33, n34, v36, rfl, rfl⟩, hk⟩
  replace hs := bk hk ct3 rfl
  obtain rfl := hs.nR d1
  refine st 3 [] ?_
  obtain ⟨j57, e203, H⟩ := letJ_some H
  refine k_join (fun ρ h => ∃ (x46 : Int) (x47 : Bool) (x48 : List Int) (x53 : Int) (x54 : GoErr) (a49 : Option Addr) (p50 : Nat) (n51 : Nat) (v55 : Value) (I : Gh), j57 x46 x47 x48 x53 x54 = some r ∧ Fits [(1, .int .i64 x1), (4, .pointer (some ⟨b25, 0, none⟩)), (6, .pointer (some ⟨b31, 0, none⟩)), (7, .int .u8 x46), (8, .bool x47)] ρ ∧ St E [rB b25 [.int .i64 0, .bool false, .bool false, .bool false, .slice none 0 0] 39, rR (tInt .u8) .i a49 p50 n51 x48, rE .i v55 x54, rB b31 [.slice a49 n51 p50, .int .i64 x53, v55] 139] I h) ?_ ?_
  ·obtain ⟨hk, bk⟩ := hs.call tk1 (.c (qK d0) (.c (xK d1) .n))
   refine st 2 [] (k_call H (fun _ m => bytes_Cursor_Peek.calls m hk) ?_)
   rintro t38 _ h H ⟨I, _, ⟨a39, p40, n41, v43, rfl, rfl⟩, hk⟩
   replace hs := bk hk ct3 rfl
   obtain rfl := hs.nR d1
   refine st 2 [] (k_if H (fun c45 H => ?_) (fun c45 H => ?_))
   ·refine st 3 [] ?_
    exact k_end ⟨t38.1, true, t38.2.2.b', t38.2.2.at', t38.2.2.err', a39, p40, t38.2.2.b'.length, v43, I, H, ⟨by kernel_rfl, by kernel_rfl, by kernel_rfl, by kernel_rfl, by kernel_rfl, trivial⟩, hs.pk (.c d5 (.c d1 (.c d1 (.c d0 .n))))⟩
   ·refine st 3 [] ?_
    exact k_end ⟨t38.1, false, t38.2.2.b', t38.2.2.at', t38.2.2.err', a39, p40, t38.2.2.b'.length, v43, I, H, ⟨by kernel_rfl, by kernel_rfl, by kernel_rfl, by kernel_rfl, by kernel_rfl, trivial⟩, hs.pk (.c d5 (.c d1 (.c d1 (.c d0 .n))))⟩
  ·clear H
   rintro ρ h ⟨x46, x47, x48, x53, x54, a49, p50, n51, v55, I, H, hf, hs⟩
   refine k_fits _ hf ?_ rfl
   subst e203
   try dsimp only at H
   obtain rfl := hs.nR d1
   refine st 3 [] ?_
   obtain ⟨j60, e202, H⟩ := letJ_some H
   refine k_join (fun ρ h => ∃ (x59 : Bool) (I : Gh), j60 x59 = some r ∧ Fits [(1, .int .i64 x1), (4, .pointer (some ⟨b25, 0, none⟩)), (6, .pointer (some ⟨b31, 0, none⟩)), (7, .int .u8 x46), (26, .bool x59)] ρ ∧ St E [rB b25 [.int .i64 0, .bool false, .bool false, .bool false, .slice none 0 0] 39, rR (tInt .u8) .i a49 p50 x48.length x48, rE .i v55 x54, rB b31 [.slice a49 x48.length p50, .int .i64 x53, v55] 139] I h) ?_ ?_
   ·refine st 1 [] (k_if H (fun c58 H => ?_) (fun c58 H => ?_))
    ·refine st 3 [] ?_
     exact k_end ⟨false, I, H, ⟨by kernel_rfl, by kernel_rfl, by kernel_rfl, by kernel_rfl, by kernel_rfl, trivial⟩, hs.pk (.c d0 (.c d0 (.c d0 (.c d0 .n))))⟩
    ·refine st 3 [] ?_
     exact k_end ⟨true, I, H, ⟨by kernel_rfl, by kernel_rfl, by kernel_rfl, by kernel_rfl, by kernel_rfl, trivial⟩, hs.pk (.c d0 (.c d0 (.c d0 (.c d0 .n))))⟩
   ·clear H
    rintro ρ h ⟨x59, I, H, hf, hs⟩
    refine k_fits _ hf ?_ rfl
    subst e202
    try dsimp only at H
    cases x59
    ·rw [cond_false] at H
     refine st 5 [false] (k_call H (fun _ m => stream_known.calls m) ?_)
     rintro t64 _ _ H ⟨rfl, rfl⟩
     cases t64
     ·rw [cond_false] at H
      obtain ⟨hk, bk⟩ := hs.call tk0 (.c xC .n)
      refine st 8 [true] (k_call H (fun _ m => stream_spot.calls m hk) ?_)
      rintro t199 v200 h H ⟨I, _, ⟨_, rfl, rfl⟩, hk⟩
      replace hs := bk hk ct1 rfl
      refine k_op (sN (hs.f d1) 0 [.int .i64 0, .bool false, .bool false, .bool false, .slice none 0 0] [.int .i64 0, .bool false, .bool false, .bool false, .slice none 0 0] (ones_of rfl) ?_)
      intro h hs
      refine st 2 [] ?_
      refine k_retQ ?_
      obtain rfl := Option.some.inj H
      exact ⟨[.agg #[.int .i64 0, .bool false, .bool false, .bool false, .slice none 0 0], v200], (.cons (.agg (by kernel_rfl) (by kernel_rfl) (by kernel_rfl) ((hs.bl d0).seg_ 0 5 (Nat.le_of_ble_eq_true rfl))) (.cons (.tmp (by kernel_rfl)) .nil)), I, _, ⟨none, 0, 0, (v200), rfl, rfl⟩, hs.pk (.f imON (.c d1 .n))⟩
     ·rw [cond_true] at H
      obtain ⟨hk, bk⟩ := (hs.f d3).call tk1 (.c (qK d1) (.c (xK d2) .n))
      refine st 9 [false] (k_call H (fun _ m => bytes_Cursor_Byte.calls m hk) ?_)
      rintro t65 _ h H ⟨I, _, ⟨a66, p67, n68, v70, rfl, rfl⟩, hk⟩
      replace hs := bk hk ct3 rfl
      obtain rfl := hs.nR d1
      refine st 2 [] (k_op (nA hs [.int .i64 0, .bool false, .bool false, .bool false, .slice none 0 0] (.agg #[.int .i64 0, .bool false, .bool false, .bool false, .slice none 0 0]) ?_))
      intro b72 h hs
      refine k_op (sN hs 0 [.int .i64 (w64 (t65.1)), .bool false, .bool false, .bool false, .slice none 0 0] [.int .i64 (w64 (t65.1)), .bool false, .bool false, .bool false, .slice none 0 0] (ones_of rfl) ?_)
      intro h hs
      refine st 3 [] ?_
      obtain ⟨j75, e198, H⟩ := letJ_some H
      refine k_join (fun ρ h => ∃ (x74 : Bool) (I : Gh), j75 x74 = some r ∧ Fits [(1, .int .i64 x1), (4, .pointer (some ⟨b25, 0, none⟩)), (6, .pointer (some ⟨b31, 0, none⟩)), (9, .pointer (some ⟨b72, 0, none⟩)), (47, .bool x74)] ρ ∧ St E [rB b25 [.int .i64 0, .bool false, .bool false, .bool false, .slice none 0 0] 39, rR (tInt .u8) .i a66 p67 t65.2.b'.length t65.2.b', rE .i v70 t65.2.err', rB b31 [.slice a66 t65.2.b'.length p67, .int .i64 t65.2.at', v70] 139, rB b72 [.int .i64 (w64 (t65.1)), .bool false, .bool false, .bool false, .slice none 0 0] 39] I h) ?_ ?_
      ·refine st 2 [] (k_op (lB (hs.bl d0) 0 rfl ?_))
       refine k_call H (fun _ m => stream_Writes.calls m) ?_
       rintro t73 _ _ H ⟨rfl, rfl⟩
       cases t73
       ·rw [cond_false] at H
        refine st 2 [] ?_
        exact k_end ⟨true, I, H, ⟨by kernel_rfl, by kernel_rfl, by kernel_rfl, by kernel_rfl, by kernel_rfl, trivial⟩, hs.pk (.c d4 (.c d2 (.c d2 (.c d1 (.c d0 .n)))))⟩
       ·rw [cond_true] at H
        refine st 2 [] ?_
        exact k_end ⟨false, I, H, ⟨by kernel_rfl, by kernel_rfl, by kernel_rfl, by kernel_rfl, by kernel_rfl, trivial⟩, hs.pk (.c d4 (.c d2 (.c d2 (.c d1 (.c d0 .n)))))⟩
      ·clear H
       rintro ρ h ⟨x74, I, H, hf, hs⟩
       refine k_fits _ hf ?_ rfl
       subst e198
       try dsimp only at H
       cases x74
       ·rw [cond_false] at H
        obtain ⟨hk, bk⟩ := (hs.f d3).call tk1 (.c (qK d1) (.c (xK d2) .n))
        refine st 5 [false] (k_call H (fun _ m => bytes_Cursor_Byte.calls m hk) ?_)
        rintro t85 _ h H ⟨I, _, ⟨a86, p87, n88, v90, rfl, rfl⟩, hk⟩
        replace hs := bk hk ct3 rfl
        obtain rfl := hs.nR d1
        obtain ⟨hk, bk⟩ := hs.call tk1 (.c (xK d1) .n)
        refine st 6 [] (k_call H (fun _ m => bytes_Cursor_Err.calls m hk) ?_)
        rintro t92 v93 h H ⟨I, _, ⟨_, v95, rfl, rfl⟩, hk⟩
        replace hs := bk hk ct3 rfl
        rcases (hs.er d0).cases with ⟨c97, rfl⟩ | ⟨c97, t98, u99, rfl⟩
        ·rw [if_pos c97] at H
         obtain ⟨hk, bk⟩ := hs.call tk0 .n
         refine st 7 [false] (k_call H (fun _ m => attr_GetWcc.calls m hk) ?_)
         rintro t100 _ h H ⟨I, _, ⟨v101, rfl, rfl⟩, hk⟩
         replace hs := bk hk ct1 rfl
         refine st 3 [] (k_op (nA hs [.bool false, .bool false, .bool false] (.agg #[.bool false, .bool false, .bool false]) ?_))
         intro b103 h hs
         refine k_op (sN hs 0 [.bool t100.1.Alarm, .bool t100.1.Unlock, .bool t100.1.Reset] [.bool t100.1.Alarm, .bool t100.1.Unlock, .bool t100.1.Reset] (ones_of rfl) ?_)
         intro h hs
         rcases (hs.er d1).cases with ⟨c104, rfl⟩ | ⟨c104, t105, u106, rfl⟩
         ·rw [if_pos c104] at H
          refine st 12 [false] (k_op (lN (hs.bl d0) 0 3 ?_))
          refine st 1 [] (k_op (sN (hs.f d10) 1 [.bool t100.1.Alarm, .bool t100.1.Unlock, .bool t100.1.Reset] [.int .i64 (w64 (t65.1)), .bool t100.1.Alarm, .bool t100.1.Unlock, .bool t100.1.Reset, .slice none 0 0] (ones_of rfl) ?_))
          intro h hs
          refine st 2 [] ?_
          obtain ⟨j175, e189, H⟩ := letJ_some H
          refine k_join (fun ρ h => ∃ (x157 : List Int) (x162 : Int) (x163 : GoErr) (x166 : Int) (x167 : Bool) (x168 : Bool) (x169 : Bool) (x170 : List api_Order) (a158 : Option Addr) (p159 : Nat) (n160 : Nat) (v164 : Value) (a171 : Option Addr) (p172 : Nat) (n173 : Nat) (I : Gh), j175 x157 x162 x163 x166 x167 x168 x169 x170 = some r ∧ Fits [(4, .pointer (some ⟨b25, 0, none⟩)), (6, .pointer (some ⟨b31, 0, none⟩)), (9, .pointer (some ⟨b72, 0, none⟩))] ρ ∧ St E [rB b25 [.int .i64 0, .bool false, .bool false, .bool false, .slice none 0 0] 39, rR (tInt .u8) .i a158 p159 n160 x157, rE .i v164 x163, rB b31 [.slice a158 n160 p159, .int .i64 x162, v164] 139, rO t_api_Order .i a171 p172 n173 x170, rB b72 [.int .i64 x166, .bool x167, .bool x168, .bool x169, .slice a171 n173 p172] 39] I h) ?_ ?_
          ·refine st 1 [] ?_
           obtain ⟨s125, m145, HR144⟩ := bind_some H
           refine k_loop 1 (fun k' ρ h => ∃ (x107 : List Int) (x112 : Int) (x113 : GoErr) (x116 : Int) (x117 : Bool) (x118 : Bool) (x119 : Bool) (x120 : List api_Order) (a108 : Option Addr) (p109 : Nat) (n110 : Nat) (v114 : Value) (a121 : Option Addr) (p122 : Nat) (n123 : Nat) (I : Gh), stream_Read.l1.m K x1 k' x107 x112 x113 x116 x117 x118 x119 x120 = some s125 ∧ Fits [(1, .int .i64 x1), (4, .pointer (some ⟨b25, 0, none⟩)), (6, .pointer (some ⟨b31, 0, none⟩)), (9, .pointer (some ⟨b72, 0, none⟩))] ρ ∧ St E [rB b25 [.int .i64 0, .bool false, .bool false, .bool false, .slice none 0 0] 39, rR (tInt .u8) .i a108 p109 n110 x107, rE .i v114 x113, rB b31 [.slice a108 n110 p109, .int .i64 x112, v114] 139, rO t_api_Order .i a121 p122 n123 x120, rB b72 [.int .i64 x116, .bool x117, .bool x118, .bool x119, .slice a121 n123 p122] 39] I h) (fun ρ h => ∃ (x126 : List Int) (x131 : Int) (x132 : GoErr) (x135 : Int) (x136 : Bool) (x137 : Bool) (x138 : Bool) (x139 : List api_Order) (a127 : Option Addr) (p128 : Nat) (n129 : Nat) (v133 : Value) (a140 : Option Addr) (p141 : Nat) (n142 : Nat) (I : Gh), (x126, x131, x132, x135, x136, x137, x138, x139) = s125 ∧ Fits [(4, .pointer (some ⟨b25, 0, none⟩)), (6, .pointer (some ⟨b31, 0, none⟩)), (9, .pointer (some ⟨b72, 0, none⟩))] ρ ∧ St E [rB b25 [.int .i64 0, .bool false, .bool false, .bool false, .slice none 0 0] 39, rR (tInt .u8) .i a127 p128 n129 x126, rE .i v133 x132, rB b31 [.slice a127 n129 p128, .int .i64 x131, v133] 139, rO t_api_Order .i a140 p141 n142 x139, rB b72 [.int .i64 x135, .bool x136, .bool x137, .bool x138, .slice a140 n142 p141] 39] I h) K ⟨t85.2.b', t92.2.at', t92.2.err', (w64 (t65.1)), t100.1.Alarm, t100.1.Unlock, t100.1.Reset, [], a86, p87, t85.2.b'.length, v95, none, 0, 0, I, m145, ⟨by kernel_rfl, by kernel_rfl, by kernel_rfl, by kernel_rfl, trivial⟩, hs.pk (.c d8 (.c d6 (.c d5 (.c d4 (.f imON (.c d0 .n))))))⟩ ?_ rfl ?_
           ·clear HR144 m145 H
            rintro k' ρ h ⟨x107, x112, x113, x116, x117, x118, x119, x120, a108, p109, n110, v114, a121, p122, n123, I, H, hf, hs⟩
            cases k' with
            | zero => cases H
            | succ k =>
             rw [stream_Read.l1.m] at H
             refine k_fits _ hf ?_ rfl
             obtain rfl := hs.nR d1
             obtain rfl := hs.nO d4
             obtain ⟨hk, bk⟩ := (hs.f d3).call tk1 (.c (qK d1) .n)
             refine st 4 [] (k_call H (fun _ m => bytes_Cursor_Left.calls m hk) ?_)
             rintro t146 _ h H ⟨I, _, ⟨a147, p148, n149, rfl, rfl⟩, hk⟩
             replace hs := bk hk ct2 rfl
             obtain rfl := hs.nR d1
             refine k_ite H (fun c151 H => ?_) (fun c151 H => ?_)
             ·obtain ⟨hk, bk⟩ := hs.call tk1 (.c (xK d3) .n)
              refine st 2 [] (k_call H (fun _ m => bytes_Cursor_Err.calls m hk) ?_)
              rintro t152 v153 h H ⟨I, _, ⟨_, v155, rfl, rfl⟩, hk⟩
              replace hs := bk hk ct3 rfl
              rcases (hs.er d0).cases with ⟨c157, rfl⟩ | ⟨c157, t158, u159, rfl⟩
              ·rw [if_pos c157] at H
               refine st 6 [true] ?_
               obtain ⟨hs0, bk0⟩ := (hs.f d1).call tk1 (.c (qL d7) (.c (qK d2) (.c (xK d1) .n)))
               have hs := hs0
               refine k_regD hs0 6 ?_
               refine aRun [0] 8 hs.keep ?_
               refine aL 1 rfl hs.keep (ll hs0 d1 (n := 4) rfl) (nmL hs0 d1) ?_
               refine aRun [2, 3] 5 hs.keep ?_
               obtain ⟨hk, bk⟩ := hs.call tk1 (.c (qK d1) (.c (xK d2) .n))
               refine aO1 4 rfl (o_call H (fun _ m => order_Get.calls m hk) ?_)
               rintro t160 _ h H ⟨I, _, ⟨a161, p162, n163, a165, p166, n167, v169, rfl, rfl⟩, hk⟩
               replace hs := bk hk ct4 rfl
               obtain rfl := hs.nO d0
               obtain rfl := hs.nR d2
               refine ⟨hs.keep, ?_⟩
               obtain ⟨I, hs⟩ := hs.fO
               refine aO1 5 rfl (nS (e := 76) hs .i t_api_Order ([t160.1] : List api_Order) [.int .i64 t160.1.Kind, .slice a161 t160.1.Text.length p162, .bool t160.1.Attr.Protected, .bool t160.1.Attr.Numeric, .int .i64 t160.1.Attr.Show, .bool t160.1.Attr.Modified, .int .i64 t160.1.Addr, .int .u8 t160.1.Char] 8 (.agg #[.int .i64 0, .slice none 0 0, .bool false, .bool false, .int .i64 0, .bool false, .int .i64 0, .int .u8 0]) (Reps.cons (T := t_api_Order) (c := [.int .i64 t160.1.Kind, .slice a161 t160.1.Text.length p162, .bool t160.1.Attr.Protected, .bool t160.1.Attr.Numeric, .int .i64 t160.1.Attr.Show, .bool t160.1.Attr.Modified, .int .i64 t160.1.Addr, .int .u8 t160.1.Char]) (x := t160.1) ⟨_, _, _, rfl, (hs.g d0)⟩ (.nil : Reps t_api_Order (Cl.G .i E.B I) h [] [])) ?_)
               intro b171 h hs
               refine ⟨hs.keep, ?_⟩
               replace hs := hs.pk (.c d0 (.c d0 (.c d0 (.c d0 (.c d0 .n)))))
               replace hs := bk0 hs ct5 rfl
               replace hs := (hs.f d11)
               obtain ⟨l173, m174, H⟩ := bind_some H
               refine aOL 6 rfl (aO (e := 76) (bytes := 72) hs (hs.sO d1) m174 ?_)
               intro a175 p176 h hs
               refine aOL 7 rfl (owp_pure (.pointer (some ⟨b72, 4, none⟩)) (by kernel_rfl) ?_)
               refine aOL 8 rfl (sB (v := .slice a175 l173.length p176) (hs.f d12) cw4 ?_)
               intro h hs
               refine aEnd ?_
               refine st 1 [] ?_
               exact k_endL ⟨k, Nat.lt_succ_self _, t160.2.b', t160.2.at', t160.2.err', x116, x117, x118, x119, l173, a165, p166, t160.2.b'.length, v169, a175, p176, l173.length, I, H, ⟨by kernel_rfl, by kernel_rfl, by kernel_rfl, by kernel_rfl, trivial⟩, hs.pk (.c d10 (.c d5 (.c d5 (.c d4 (.c d1 (.c d0 .n))))))⟩
              ·rw [if_neg c157] at H
               refine st 4 [false] ?_
               refine k_out rfl ?_
               obtain rfl := Option.some.inj H
               exact xE ⟨t146.2.b', t152.2.at', t152.2.err', x116, x117, x118, x119, x120, a147, p148, t146.2.b'.length, v155, a121, p122, x120.length, I, rfl, ⟨by kernel_rfl, by kernel_rfl, by kernel_rfl, trivial⟩, hs.pk (.c d4 (.c d3 (.c d2 (.c d1 (.c d3 (.c d3 .n))))))⟩
             ·refine st 7 [false] ?_
              refine k_out rfl ?_
              obtain rfl := Option.some.inj H
              exact xE ⟨t146.2.b', t146.2.at', x113, x116, x117, x118, x119, x120, a147, p148, t146.2.b'.length, v114, a121, p122, x120.length, I, rfl, ⟨by kernel_rfl, by kernel_rfl, by kernel_rfl, trivial⟩, hs.pk (.c d2 (.c d1 (.c d2 (.c d0 (.c d1 (.c d1 .n))))))⟩
           ·rintro ρ h ⟨x126, x131, x132, x135, x136, x137, x138, x139, a127, p128, n129, v133, a140, p141, n142, I, rfl, hf, hs⟩
            have H := HR144
            try dsimp only at H
            obtain rfl := hs.nR d1
            obtain rfl := hs.nO d4
            exact k_end ⟨x126, x131, x132, x135, x136, x137, x138, x139, a127, p128, x126.length, v133, a140, p141, x139.length, I, H, ⟨fits_get hf (by kernel_rfl), fits_get hf (by kernel_rfl), fits_get hf (by kernel_rfl), trivial⟩, hs.pk (.c d0 (.c d0 (.c d0 (.c d0 (.c d0 (.c d0 .n))))))⟩
          ·clear H
           rintro ρ h ⟨x157, x162, x163, x166, x167, x168, x169, x170, a158, p159, n160, v164, a171, p172, n173, I, H, hf, hs⟩
           refine k_fits _ hf ?_ rfl
           subst e189
           try dsimp only at H
           obtain rfl := hs.nR d1
           obtain rfl := hs.nO d4
           obtain ⟨hk, bk⟩ := (hs.f d3).call tk1 (.c (xK d2) .n)
           refine st 4 [] (k_call H (fun _ m => bytes_Cursor_Err.calls m hk) ?_)
           rintro t176 v177 h H ⟨I, _, ⟨_, v179, rfl, rfl⟩, hk⟩
           replace hs := bk hk ct3 rfl
           rcases (hs.er d0).cases with ⟨c181, rfl⟩ | ⟨c181, t182, u183, rfl⟩
           ·rw [if_pos c181] at H
            refine st 6 [false] (k_op (lN (hs.bl d7) 0 5 ?_))
            refine k_op (sN (hs.f d3) 0 [.int .i64 x166, .bool x167, .bool x168, .bool x169, .slice a171 x170.length p172] [.int .i64 x166, .bool x167, .bool x168, .bool x169, .slice a171 x170.length p172] (ones_of rfl) ?_)
            intro h hs
            refine st 2 [] ?_
            refine k_retQ ?_
            obtain rfl := Option.some.inj H
            exact ⟨[.agg #[.int .i64 x166, .bool x167, .bool x168, .bool x169, .slice a171 x170.length p172], .nilIface], (.cons (.agg (by kernel_rfl) (by kernel_rfl) (by kernel_rfl) ((hs.bl d0).seg_ 0 5 (Nat.le_of_ble_eq_true rfl))) (.cons (.tmp (by kernel_rfl)) .nil)), I, _, ⟨a171, p172, x170.length, (.nilIface), rfl, rfl⟩, hs.pk (.c d6 (.f imEN .n))⟩
           ·rw [if_neg c181] at H
            obtain ⟨hk, bk⟩ := (hs.f d1).call tk1 (.c (xK d1) .n)
            refine st 7 [true] (k_call H (fun _ m => bytes_Cursor_Err.calls m hk) ?_)
            rintro t184 v185 h H ⟨I, _, ⟨_, v187, rfl, rfl⟩, hk⟩
            replace hs := bk hk ct3 rfl
            refine k_op (sN (hs.f d5) 0 [.int .i64 0, .bool false, .bool false, .bool false, .slice none 0 0] [.int .i64 0, .bool false, .bool false, .bool false, .slice none 0 0] (ones_of rfl) ?_)
            intro h hs
            refine st 2 [] ?_
            refine k_retQ ?_
            obtain rfl := Option.some.inj H
            exact ⟨[.agg #[.int .i64 0, .bool false, .bool false, .bool false, .slice none 0 0], v185], (.cons (.agg (by kernel_rfl) (by kernel_rfl) (by kernel_rfl) ((hs.bl d0).seg_ 0 5 (Nat.le_of_ble_eq_true rfl))) (.cons (.tmp (by kernel_rfl)) .nil)), I, _, ⟨none, 0, 0, (v185), rfl, rfl⟩, hs.pk (.f imON (.c d1 .n))⟩
         ·rw [if_neg c104] at H
          obtain ⟨hk, bk⟩ := hs.call tk0 (.c (xK d1) .n)
          refine st 13 [true] (k_call H (fun _ m => stream_spot.calls m hk) ?_)
          rintro t190 v191 h H ⟨I, _, ⟨_, rfl, rfl⟩, hk⟩
          replace hs := bk hk ct1 rfl
          refine k_op (sN (hs.f d8) 0 [.int .i64 0, .bool false, .bool false, .bool false, .slice none 0 0] [.int .i64 0, .bool false, .bool false, .bool false, .slice none 0 0] (ones_of rfl) ?_)
          intro h hs
          refine st 2 [] ?_
          refine k_retQ ?_
          obtain rfl := Option.some.inj H
          exact ⟨[.agg #[.int .i64 0, .bool false, .bool false, .bool false, .slice none 0 0], v191], (.cons (.agg (by kernel_rfl) (by kernel_rfl) (by kernel_rfl) ((hs.bl d0).seg_ 0 5 (Nat.le_of_ble_eq_true rfl))) (.cons (.tmp (by kernel_rfl)) .nil)), I, _, ⟨none, 0, 0, (v191), rfl, rfl⟩, hs.pk (.f imON (.c d1 .n))⟩
        ·rw [if_neg c97] at H
         obtain ⟨hk, bk⟩ := (hs.f d1).call tk1 (.c (xK d1) .n)
         refine st 7 [true] (k_call H (fun _ m => bytes_Cursor_Err.calls m hk) ?_)
         rintro t193 v194 h H ⟨I, _, ⟨_, v196, rfl, rfl⟩, hk⟩
         replace hs := bk hk ct3 rfl
         refine k_op (sN (hs.f d7) 0 [.int .i64 0, .bool false, .bool false, .bool false, .slice none 0 0] [.int .i64 0, .bool false, .bool false, .bool false, .slice none 0 0] (ones_of rfl) ?_)
         intro h hs
         refine st 2 [] ?_
         refine k_retQ ?_
         obtain rfl := Option.some.inj H
         exact ⟨[.agg #[.int .i64 0, .bool false, .bool false, .bool false, .slice none 0 0], v194], (.cons (.agg (by kernel_rfl) (by kernel_rfl) (by kernel_rfl) ((hs.bl d0).seg_ 0 5 (Nat.le_of_ble_eq_true rfl))) (.cons (.tmp (by kernel_rfl)) .nil)), I, _, ⟨none, 0, 0, (v194), rfl, rfl⟩, hs.pk (.f imON (.c d1 .n))⟩
       ·rw [cond_true] at H
        obtain ⟨hk, bk⟩ := (hs.f d3).call tk1 (.c (qK d1) .n)
        refine st 5 [true] (k_call H (fun _ m => bytes_Cursor_Left.calls m hk) ?_)
        rintro t76 _ h H ⟨I, _, ⟨a77, p78, n79, rfl, rfl⟩, hk⟩
        replace hs := bk hk ct2 rfl
        obtain rfl := hs.nR d1
        refine k_ite H (fun c81 H => ?_) (fun c81 H => ?_)
        ·obtain ⟨hk, bk⟩ := hs.call tk0 (.c xC .n)
         refine st 6 [true] (k_call H (fun _ m => stream_spot.calls m hk) ?_)
         rintro t82 v83 h H ⟨I, _, ⟨_, rfl, rfl⟩, hk⟩
         replace hs := bk hk ct1 rfl
         refine k_op (sN (hs.f d3) 0 [.int .i64 0, .bool false, .bool false, .bool false, .slice none 0 0] [.int .i64 0, .bool false, .bool false, .bool false, .slice none 0 0] (ones_of rfl) ?_)
         intro h hs
         refine st 2 [] ?_
         refine k_retQ ?_
         obtain rfl := Option.some.inj H
         exact ⟨[.agg #[.int .i64 0, .bool false, .bool false, .bool false, .slice none 0 0], v83], (.cons (.agg (by kernel_rfl) (by kernel_rfl) (by kernel_rfl) ((hs.bl d0).seg_ 0 5 (Nat.le_of_ble_eq_true rfl))) (.cons (.tmp (by kernel_rfl)) .nil)), I, _, ⟨none, 0, 0, (v83), rfl, rfl⟩, hs.pk (.f imON (.c d1 .n))⟩
        ·refine st 5 [false] (k_op (lN (hs.bl d5) 0 5 ?_))
         refine k_op (sN (hs.f d2) 0 [.int .i64 (w64 (t65.1)), .bool false, .bool false, .bool false, .slice none 0 0] [.int .i64 (w64 (t65.1)), .bool false, .bool false, .bool false, .slice none 0 0] (ones_of rfl) ?_)
         intro h hs
         refine st 2 [] ?_
         refine k_retQ ?_
         obtain rfl := Option.some.inj H
         exact ⟨[.agg #[.int .i64 (w64 (t65.1)), .bool false, .bool false, .bool false, .slice none 0 0], .nilIface], (.cons (.agg (by kernel_rfl) (by kernel_rfl) (by kernel_rfl) ((hs.bl d0).seg_ 0 5 (Nat.le_of_ble_eq_true rfl))) (.cons (.tmp (by kernel_rfl)) .nil)), I, _, ⟨none, 0, 0, (.nilIface), rfl, rfl⟩, hs.pk (.f imON (.f imEN .n))⟩
    ·rw [cond_true] at H
     obtain ⟨hk, bk⟩ := hs.call tk0 (.c xC .n)
     refine st 5 [true] (k_call H (fun _ m => stream_spot.calls m hk) ?_)
     rintro t61 v62 h H ⟨I, _, ⟨_, rfl, rfl⟩, hk⟩
     replace hs := bk hk ct1 rfl
     refine k_op (sN (hs.f d1) 0 [.int .i64 0, .bool false, .bool false, .bool false, .slice none 0 0] [.int .i64 0, .bool false, .bool false, .bool false, .slice none 0 0] (ones_of rfl) ?_)
     intro h hs
     refine st 2 [] ?_
     refine k_retQ ?_
     obtain rfl := Option.some.inj H
     exact ⟨[.agg #[.int .i64 0, .bool false, .bool false, .bool false, .slice none 0 0], v62], (.cons (.agg (by kernel_rfl) (by kernel_rfl) (by kernel_rfl) ((hs.bl d0).seg_ 0 5 (Nat.le_of_ble_eq_true rfl))) (.cons (.tmp (by kernel_rfl)) .nil)), I, _, ⟨none, 0, 0, (v62), rfl, rfl⟩, hs.pk (.f imON (.c d1 .n))⟩

/-! shutter/grid.New -/
def grid_New.m (x0 : Int) (x1 : Int) : Option (api_Screen × GoErr) :=
  (if x0 < 1 then (some ((⟨0, 0, [], 0, false, false⟩ : api_Screen), (GoErr.no 1))) else (if x1 < 1 then (some ((⟨0, 0, [], 0, false, false⟩ : api_Screen), (GoErr.no 1))) else (if x0 > 16383 then (some ((⟨0, 0, [], 0, false, false⟩ : api_Screen), (GoErr.no 1))) else (if x0 ≠ 0 then (if x1 > (w64 (Int.tdiv 16383 x0)) then (some ((⟨0, 0, [], 0, false, false⟩ : api_Screen), (GoErr.no 1))) else ((mk (w64 (x0 * x1)) (⟨false, (⟨false, false, 0, false⟩ : api_Attr), 0⟩ : api_Cell)).bind fun l27 => (some ((⟨x0, x1, l27, 0, false, false⟩ : api_Screen), GoErr.nil)))) else none))))

theorem grid_New.calls {B I : Gh} {h : Heap} {x0 : Int} {x1 : Int} {r : (api_Screen × GoErr)} (H : grid_New.m x0 x1 = some r)  :
    Fc Tryz.prog 22 #[.int .i64 x0, .int .i64 x1] [] B I h (fun v L => ∃ (a31 : Option Addr) (p32 : Nat) (n33 : Nat) (v35 : Value), v = .tuple #[.agg #[.int .i64 r.1.Rows, .int .i64 r.1.Cols, .slice a31 n33 p32, .int .i64 r.1.Cursor, .bool r.1.Locked, .bool r.1.Insert], v35] ∧ L = [rO t_api_Cell .i a31 p32 n33 r.1.Cells, rE .i v35 r.2]) := by
 refine fc_of fun E hs => ?_
 unfold grid_New.m at H
 refine fn_of2 (args := [.int .i64 x0, .int .i64 x1]) (rs := [.cell 4 24, .tmp 5]) (N := 31) Tryz.func22 rfl rfl rfl rfl ?_
 refine st 2 [] (k_op (nA hs [.int .i64 0, .int .i64 0, .slice none 0 0, .int .i64 0, .bool false, .bool false] (.agg #[.int .i64 0, .int .i64 0, .slice none 0 0, .int .i64 0, .bool false, .bool false]) ?_))
 intro b21 h hs
 refine st 6 [] (k_ite H (fun c22 H => ?_) (fun c22 H => ?_))
 ·refine st 20 [true] (k_op (sN hs 0 [.int .i64 0, .int .i64 0, .slice none 0 0, .int .i64 0, .bool false, .bool false] [.int .i64 0, .int .i64 0, .slice none 0 0, .int .i64 0, .bool false, .bool false] (ones_of rfl) ?_))
  intro h hs
  refine st 2 [] ?_
  refine k_retQ ?_
  obtain rfl := Option.some.inj H
  exact ⟨[.agg #[.int .i64 0, .int .i64 0, .slice none 0 0, .int .i64 0, .bool false, .bool false], .iface 71 (.int .i64 1)], (.cons (.agg (by kernel_rfl) (by kernel_rfl) (by kernel_rfl) ((hs.bl d0).seg_ 0 6 (Nat.le_of_ble_eq_true rfl))) (.cons (.tmp (by kernel_rfl)) .nil)), I, _, ⟨none, 0, 0, (.iface 71 (.int .i64 1)), rfl, rfl⟩, hs.pk (.f imON (.f imEC .n))⟩
 ·refine st 2 [] (k_ite H (fun c23 H => ?_) (fun c23 H => ?_))
  ·refine st 17 [true] (k_op (sN hs 0 [.int .i64 0, .int .i64 0, .slice none 0 0, .int .i64 0, .bool false, .bool false] [.int .i64 0, .int .i64 0, .slice none 0 0, .int .i64 0, .bool false, .bool false] (ones_of rfl) ?_))
   intro h hs
   refine st 2 [] ?_
   refine k_retQ ?_
   obtain rfl := Option.some.inj H
   exact ⟨[.agg #[.int .i64 0, .int .i64 0, .slice none 0 0, .int .i64 0, .bool false, .bool false], .iface 71 (.int .i64 1)], (.cons (.agg (by kernel_rfl) (by kernel_rfl) (by kernel_rfl) ((hs.bl d0).seg_ 0 6 (Nat.le_of_ble_eq_true rfl))) (.cons (.tmp (by kernel_rfl)) .nil)), I, _, ⟨none, 0, 0, (.iface 71 (.int .i64 1)), rfl, rfl⟩, hs.pk (.f imON (.f imEC .n))⟩
  ·refine st 3 [] (k_ite H (fun c24 H => ?_) (fun c24 H => ?_))
   ·refine st 13 [true] (k_op (sN hs 0 [.int .i64 0, .int .i64 0, .slice none 0 0, .int .i64 0, .bool false, .bool false] [.int .i64 0, .int .i64 0, .slice none 0 0, .int .i64 0, .bool false, .bool false] (ones_of rfl) ?_))
    intro h hs
    refine st 2 [] ?_
    refine k_retQ ?_
    obtain rfl := Option.some.inj H
    exact ⟨[.agg #[.int .i64 0, .int .i64 0, .slice none 0 0, .int .i64 0, .bool false, .bool false], .iface 71 (.int .i64 1)], (.cons (.agg (by kernel_rfl) (by kernel_rfl) (by kernel_rfl) ((hs.bl d0).seg_ 0 6 (Nat.le_of_ble_eq_true rfl))) (.cons (.tmp (by kernel_rfl)) .nil)), I, _, ⟨none, 0, 0, (.iface 71 (.int .i64 1)), rfl, rfl⟩, hs.pk (.f imON (.f imEC .n))⟩
   ·obtain ⟨c25, H⟩ := guard_pos H
    refine st 4 [] (k_val (.int .i64 (w64 (Int.tdiv 16383 x0))) (pr_quo (k := .i64) (a := 16383) (b := x0) (by kernel_rfl) (by kernel_rfl) c25) ?_)
    refine k_ite H (fun c26 H => ?_) (fun c26 H => ?_)
    ·refine st 7 [true] (k_op (sN hs 0 [.int .i64 0, .int .i64 0, .slice none 0 0, .int .i64 0, .bool false, .bool false] [.int .i64 0, .int .i64 0, .slice none 0 0, .int .i64 0, .bool false, .bool false] (ones_of rfl) ?_))
     intro h hs
     refine st 2 [] ?_
     refine k_retQ ?_
     obtain rfl := Option.some.inj H
     exact ⟨[.agg #[.int .i64 0, .int .i64 0, .slice none 0 0, .int .i64 0, .bool false, .bool false], .iface 71 (.int .i64 1)], (.cons (.agg (by kernel_rfl) (by kernel_rfl) (by kernel_rfl) ((hs.bl d0).seg_ 0 6 (Nat.le_of_ble_eq_true rfl))) (.cons (.tmp (by kernel_rfl)) .nil)), I, _, ⟨none, 0, 0, (.iface 71 (.int .i64 1)), rfl, rfl⟩, hs.pk (.f imON (.f imEC .n))⟩
    ·obtain ⟨l27, m28, H⟩ := bind_some H
     refine st 11 [false] (k_op (nM (e := 57) (kl := .i64) (kc := .i64) (bytes := 40) hs t_api_Cell (⟨false, (⟨false, false, 0, false⟩ : api_Attr), 0⟩ : api_Cell) (.agg #[.bool false, .bool false, .bool false, .int .i64 0, .bool false, .int .u8 0]) m28 (fun _ _ => rfl) ?_))
     intro b29 h hs
     refine st 1 [] (k_op (sN (hs.f d1) 0 [.int .i64 x0, .int .i64 x1, .slice (some ⟨b29, 0, none⟩) l27.length l27.length, .int .i64 0, .bool false, .bool false] [.int .i64 x0, .int .i64 x1, .slice (some ⟨b29, 0, none⟩) l27.length l27.length, .int .i64 0, .bool false, .bool false] (ones_of rfl) ?_))
     intro h hs
     refine st 2 [] ?_
     refine k_retQ ?_
     obtain rfl := Option.some.inj H
     exact ⟨[.agg #[.int .i64 x0, .int .i64 x1, .slice (some ⟨b29, 0, none⟩) l27.length l27.length, .int .i64 0, .bool false, .bool false], .nilIface], (.cons (.agg (by kernel_rfl) (by kernel_rfl) (by kernel_rfl) ((hs.bl d0).seg_ 0 6 (Nat.le_of_ble_eq_true rfl))) (.cons (.tmp (by kernel_rfl)) .nil)), I, _, ⟨(some ⟨b29, 0, none⟩), l27.length, l27.length, (.nilIface), rfl, rfl⟩, hs.pk (.c d1 (.f imEN .n))⟩

/-! slices.Clone[[]shutter/api.Cell,shutter/api.Cell] -/
def slices_Clone_api_Cell.m (x0 : (List api_Cell)) : Option (List api_Cell) :=
  ((app [] x0).bind fun l29 => (some l29))

theorem slices_Clone_api_Cell.calls {B I : Gh} {h : Heap} {x0 : (List api_Cell)} {a21 : Option Addr} {p22 : Nat} {n23 : Nat} {r : (List api_Cell)} (H : slices_Clone_api_Cell.m x0 = some r)  :
    Fc Tryz.prog 105 #[.slice a21 n23 p22] [rR t_api_Cell .b a21 p22 n23 x0] B I h (fun v L => ∃ (a34 : Option Addr) (p35 : Nat) (n36 : Nat), v = .slice a34 n36 p35 ∧ L = [rO t_api_Cell .i a34 p35 n36 r]) := by
 refine fc_of fun E hs => ?_
 unfold slices_Clone_api_Cell.m at H
 obtain rfl := hs.nR d0
 refine fn_of (args := [.slice a21 x0.length p22]) (rs := [.tmp 2]) (N := 8) Tryz.func105 rfl rfl rfl rfl ?_
 rcases a21 with _ | ad25
 ·have e26 := ((hs.sR d0).toSl.nil rfl).1
  replace H : (some []) = some r := by simpa [app, Lim, e26] using H
  refine st 15 [true] ?_
  refine k_retQ ?_
  obtain rfl := Option.some.inj H
  exact ⟨_, by kernel_rfl, I, _, ⟨none, 0, 0, rfl, rfl⟩, hs.pk (.f imON .n)⟩
 ·refine st 14 [false] (k_op (nS (e := 57) hs .i t_api_Cell ([] : List api_Cell) [] 6 (.agg #[.bool false, .bool false, .bool false, .int .i64 0, .bool false, .int .u8 0]) (.nil : Reps t_api_Cell (Cl.G .i E.B I) h [] []) ?_))
  intro b27 h hs
  obtain ⟨l29, m30, H⟩ := bind_some H
  refine st 1 [] (k_op (aO (e := 57) (bytes := 40) hs ((hs.sR d1).flat (fun r => r)) m30 ?_))
  intro a31 p32 h hs
  refine st 2 [] ?_
  refine k_retQ ?_
  obtain rfl := Option.some.inj H
  exact ⟨_, by kernel_rfl, I, _, ⟨a31, p32, l29.length, rfl, rfl⟩, hs.pk (.c d0 .n)⟩

/-! shutter/grid.Copy -/
def grid_Copy.m (x0 : api_Screen) : Option api_Screen :=
  ((slices_Clone_api_Cell.m x0.Cells).bind fun t27 => (some (⟨x0.Rows, x0.Cols, t27, x0.Cursor, x0.Locked, x0.Insert⟩ : api_Screen)))

theorem grid_Copy.calls {B I : Gh} {h : Heap} {x0 : api_Screen} {a21 : Option Addr} {p22 : Nat} {n23 : Nat} {r : api_Screen} (H : grid_Copy.m x0 = some r)  :
    Fc Tryz.prog 67 #[.agg #[.int .i64 x0.Rows, .int .i64 x0.Cols, .slice a21 n23 p22, .int .i64 x0.Cursor, .bool x0.Locked, .bool x0.Insert]] [rR t_api_Cell .b a21 p22 n23 x0.Cells] B I h (fun v L => ∃ (a32 : Option Addr) (p33 : Nat) (n34 : Nat), v = .agg #[.int .i64 r.Rows, .int .i64 r.Cols, .slice a32 n34 p33, .int .i64 r.Cursor, .bool r.Locked, .bool r.Insert] ∧ L = [rO t_api_Cell .i a32 p33 n34 r.Cells]) := by
 refine fc_of fun E hs => ?_
 unfold grid_Copy.m at H
 obtain rfl := hs.nR d0
 refine fn_of2 (args := [.agg #[.int .i64 x0.Rows, .int .i64 x0.Cols, .slice a21 x0.Cells.length p22, .int .i64 x0.Cursor, .bool x0.Locked, .bool x0.Insert]]) (rs := [.cell 2 24]) (N := 8) Tryz.func67 rfl rfl rfl rfl ?_
 refine st 2 [] (k_op (nB hs [.int .i64 x0.Rows, .int .i64 x0.Cols, .slice a21 x0.Cells.length p22, .int .i64 x0.Cursor, .bool x0.Locked, .bool x0.Insert] ?_))
 intro b25 h hs
 refine k_op (nA hs [.int .i64 0, .int .i64 0, .slice none 0 0, .int .i64 0, .bool false, .bool false] (.agg #[.int .i64 0, .int .i64 0, .slice none 0 0, .int .i64 0, .bool false, .bool false]) ?_)
 intro b26 h hs
 refine st 4 [] (k_op (lB (hs.bl d1) 2 rfl ?_))
 obtain ⟨hk, bk⟩ := hs.call tk0 (.c (qB d2) .n)
 refine k_call H (fun _ m => slices_Clone_api_Cell.calls m hk) ?_
 rintro t27 _ h H ⟨I, _, ⟨a28, p29, n30, rfl, rfl⟩, hk⟩
 replace hs := bk hk ct1 rfl
 obtain rfl := hs.nO d0
 refine st 1 [] (k_op (sB (v := .slice a28 t27.length p29) (hs.f d2) cw2 ?_))
 intro h hs
 refine st 3 [] (k_op (lN (hs.bl d0) 0 6 ?_))
 refine k_op (sN (hs.f d2) 0 [.int .i64 x0.Rows, .int .i64 x0.Cols, .slice a28 t27.length p29, .int .i64 x0.Cursor, .bool x0.Locked, .bool x0.Insert] [.int .i64 x0.Rows, .int .i64 x0.Cols, .slice a28 t27.length p29, .int .i64 x0.Cursor, .bool x0.Locked, .bool x0.Insert] (ones_of rfl) ?_)
 intro h hs
 refine st 1 [] ?_
 refine k_retQ ?_
 obtain rfl := Option.some.inj H
 exact ⟨[.agg #[.int .i64 x0.Rows, .int .i64 x0.Cols, .slice a28 t27.length p29, .int .i64 x0.Cursor, .bool x0.Locked, .bool x0.Insert]], (.cons (.agg (by kernel_rfl) (by kernel_rfl) (by kernel_rfl) ((hs.bl d0).seg_ 0 6 (Nat.le_of_ble_eq_true rfl))) .nil), I, _, ⟨a28, p29, t27.length, rfl, rfl⟩, hs.pk (.c d2 .n)⟩

/-! (*shutter/paint.brush).put -/
def paint_brush_put.m (x0 : paint_brush) (x1 : api_Cell) : Option paint_brush :=
  (if 0 ≤ x0.at' then (if x0.at' < (x0.s'.Cells.length : Int) then ((grid_On.m (⟨x0.s'.Rows, x0.s'.Cols, (x0.s'.Cells.set x0.at'.toNat x1), x0.s'.Cursor, x0.s'.Locked, x0.s'.Insert⟩ : api_Screen) x0.at' 1).bind fun t31 => (some (⟨(⟨x0.s'.Rows, x0.s'.Cols, (x0.s'.Cells.set x0.at'.toNat x1), x0.s'.Cursor, x0.s'.Locked, x0.s'.Insert⟩ : api_Screen), t31⟩ : paint_brush))) else none) else none)

theorem paint_brush_put.calls {B I : Gh} {h : Heap} {x0 : paint_brush} {x1 : api_Cell} {b0 : Nat} {a21 : Option Addr} {p22 : Nat} {n23 : Nat} {r : paint_brush} (H : paint_brush_put.m x0 x1 = some r)  :
    Fc Tryz.prog 106 #[.pointer (some ⟨b0, 0, none⟩), .agg #[.bool x1.Field, .bool x1.Attr.Protected, .bool x1.Attr.Numeric, .int .i64 x1.Attr.Show, .bool x1.Attr.Modified, .int .u8 x1.Char]] [rB b0 [.int .i64 x0.s'.Rows, .int .i64 x0.s'.Cols, .slice a21 n23 p22, .int .i64 x0.s'.Cursor, .bool x0.s'.Locked, .bool x0.s'.Insert, .int .i64 x0.at'] 111, rO t_api_Cell .i a21 p22 n23 x0.s'.Cells] B I h (fun v L => ∃ (a32 : Option Addr) (p33 : Nat) (n34 : Nat), v = .tuple #[] ∧ L = [rB b0 [.int .i64 r.s'.Rows, .int .i64 r.s'.Cols, .slice a32 n34 p33, .int .i64 r.s'.Cursor, .bool r.s'.Locked, .bool r.s'.Insert, .int .i64 r.at'] 111, rO t_api_Cell .i a32 p33 n34 r.s'.Cells]) := by
 refine fc_of fun E hs => ?_
 unfold paint_brush_put.m at H
 obtain rfl := hs.nO d1
 refine fn_of (args := [.pointer (some ⟨b0, 0, none⟩), .agg #[.bool x1.Field, .bool x1.Attr.Protected, .bool x1.Attr.Numeric, .int .i64 x1.Attr.Show, .bool x1.Attr.Modified, .int .u8 x1.Char]]) (rs := []) (N := 27) Tryz.func106 rfl rfl rfl rfl ?_
 refine st 2 [] (k_op (nB hs [.bool x1.Field, .bool x1.Attr.Protected, .bool x1.Attr.Numeric, .int .i64 x1.Attr.Show, .bool x1.Attr.Modified, .int .u8 x1.Char] ?_))
 intro b25 h hs
 refine st 2 [] ?_
 obtain ⟨hs0, bk0⟩ := hs.call tk0 (.c (qL d1) (.c (qL d0) (.c (qO d2) .n)))
 have hs := hs0
 refine k_regD hs0 11 ?_
 refine aRun [0, 1, 2, 3] 8 hs.keep ?_
 refine aL 4 rfl hs.keep (ll hs0 d0 (n := 2) rfl) (nmL hs0 d0) ?_
 refine aRun [5, 6, 7] 4 hs.keep ?_
 refine aL 8 rfl hs.keep (ll hs0 d0 (n := 6) rfl) (nmL hs0 d0) ?_
 refine aG 9 rfl hs.keep (lls hs0 d1 0 6 rfl) (nmL hs0 d1) ?_
 obtain ⟨c26, H⟩ := guard_pos H
 obtain ⟨c27, H⟩ := guard_pos H
 refine aP 10 (elemPtr a21 (x0.at'.toNat * 6)) rfl (pI (e := 57) (ik := .i64) (hs.sR d2) c26 c27) hs.keep ?_
 replace hs := hs.pk .n
 replace hs := bk0 hs ct0 rfl
 obtain ⟨y29, g28, q30⟩ := (hs.sO d2).toSl.seg c26 c27
 obtain rfl := t_api_Cell.open_ q30
 replace hs := (hs.f d2)
 refine aOL 11 rfl (sE hs 0 [.bool x1.Field, .bool x1.Attr.Protected, .bool x1.Attr.Numeric, .int .i64 x1.Attr.Show, .bool x1.Attr.Modified, .int .u8 x1.Char] x1 c26 c27 g28 (ones_of rfl) rfl ?_)
 intro h hs
 refine aEnd ?_
 obtain ⟨hs0, bk0⟩ := hs.call tk0 (.c (qL d2) (.c (qO d0) .n))
 have hs := hs0
 refine k_regD hs0 12 ?_
 refine aRun [0, 1, 2, 3] 9 hs.keep ?_
 refine aG 4 rfl hs.keep (lls hs0 d0 0 6 rfl) (nmL hs0 d0) ?_
 refine aRun [5, 6, 7] 5 hs.keep ?_
 refine aL 8 rfl hs.keep (ll hs0 d0 (n := 6) rfl) (nmL hs0 d0) ?_
 obtain ⟨hk, bk⟩ := hs.call tk0 (.c (qB d1) .n)
 refine aO1 9 rfl (o_call H (fun _ m => grid_On.calls m hk) ?_)
 rintro t31 _ h H ⟨I, _, ⟨rfl, rfl⟩, hk⟩
 replace hs := bk hk ct0 rfl
 refine ⟨hs.keep, ?_⟩
 refine aRun [10, 11] 1 hs.keep ?_
 replace hs := hs.pk .n
 replace hs := bk0 hs ct0 rfl
 refine aOL 12 rfl (sB (v := .int .i64 t31) (hs.f d2) cw6 ?_)
 intro h hs
 refine aEnd ?_
 refine k_fin ?_
 obtain rfl := Option.some.inj H
 exact ⟨_, by kernel_rfl, I, _, ⟨a21, p22, x0.s'.Cells.length, rfl, rfl⟩, hs.pk (.c d0 (.c d0 .n))⟩

/-! (*shutter/paint.brush).tab -/
def paint_brush_tab.l1.m (K : Nat) (x0 : paint_brush) : Nat → Int → Option (paint_brush ⊕ (Unit))
  | 0, _ => none
  | k + 1, x25 => (if x25 < (x0.s'.Cells.length : Int) then (if 0 ≤ x25 then ((grid_On.m x0.s' x25 1).bind fun t35 => (bif (at_ x0.s'.Cells x25).Field then (bif ((at_ x0.s'.Cells x25).Attr).Protected then (paint_brush_tab.l1.m K x0 k (w64 (x25 + 1))) else (if 0 ≤ t35 then (if t35 < (x0.s'.Cells.length : Int) then (bif (at_ x0.s'.Cells t35).Field then (paint_brush_tab.l1.m K x0 k (w64 (x25 + 1))) else (some (Sum.inl (⟨x0.s', t35⟩ : paint_brush)))) else none) else none)) else (paint_brush_tab.l1.m K x0 k (w64 (x25 + 1))))) else none) else (some (Sum.inr ())))
def paint_brush_tab.m (K : Nat) (x0 : paint_brush) : Option paint_brush :=
  ((paint_brush_tab.l1.m K x0 K x0.at').bind fun s26 => match s26 with | .inl q => (some q) | .inr _ => (some (⟨x0.s', 0⟩ : paint_brush)))

theorem paint_brush_tab.calls {B I : Gh} {h : Heap} {K : Nat} {x0 : paint_brush} {b0 : Nat} {a21 : Option Addr} {p22 : Nat} {n23 : Nat} {r : paint_brush} (H : paint_brush_tab.m K x0 = some r)  :
    Fc Tryz.prog 107 #[.pointer (some ⟨b0, 0, none⟩)] [rB b0 [.int .i64 x0.s'.Rows, .int .i64 x0.s'.Cols, .slice a21 n23 p22, .int .i64 x0.s'.Cursor, .bool x0.s'.Locked, .bool x0.s'.Insert, .int .i64 x0.at'] 111, rO t_api_Cell .i a21 p22 n23 x0.s'.Cells] B I h (fun v L => ∃ (a44 : Option Addr) (p45 : Nat) (n46 : Nat), v = .tuple #[] ∧ L = [rB b0 [.int .i64 r.s'.Rows, .int .i64 r.s'.Cols, .slice a44 n46 p45, .int .i64 r.s'.Cursor, .bool r.s'.Locked, .bool r.s'.Insert, .int .i64 r.at'] 111, rO t_api_Cell .i a44 p45 n46 r.s'.Cells]) := by
 refine fc_of fun E hs => ?_
 unfold paint_brush_tab.m at H
 obtain rfl := hs.nO d1
 refine fn_of (args := [.pointer (some ⟨b0, 0, none⟩)]) (rs := []) (N := 60) Tryz.func107 rfl rfl rfl rfl ?_
 refine st 6 [] (k_op (lB (hs.bl d0) 6 rfl ?_))
 refine st 3 [] ?_
 obtain ⟨s26, m28, HR27⟩ := bind_some H
 refine k_loop 0 (fun k' ρ h => ∃ (x25 : Int) (I : Gh), paint_brush_tab.l1.m K x0 k' x25 = some s26 ∧ Fits [(0, .pointer (some ⟨b0, 0, none⟩)), (2, .int .i64 x25)] ρ ∧ St E [rO t_api_Cell .i a21 p22 x0.s'.Cells.length x0.s'.Cells, rB b0 [.int .i64 x0.s'.Rows, .int .i64 x0.s'.Cols, .slice a21 x0.s'.Cells.length p22, .int .i64 x0.s'.Cursor, .bool x0.s'.Locked, .bool x0.s'.Insert, .int .i64 x0.at'] 111] I h) (fun ρ h => ∃ (I : Gh), Sum.inr () = s26 ∧ Fits [(0, .pointer (some ⟨b0, 0, none⟩))] ρ ∧ St E [rO t_api_Cell .i a21 p22 x0.s'.Cells.length x0.s'.Cells, rB b0 [.int .i64 x0.s'.Rows, .int .i64 x0.s'.Cols, .slice a21 x0.s'.Cells.length p22, .int .i64 x0.s'.Cursor, .bool x0.s'.Locked, .bool x0.s'.Insert, .int .i64 x0.at'] 111] I h) K ⟨x0.at', I, m28, ⟨by kernel_rfl, by kernel_rfl, trivial⟩, hs.pk (.c d1 (.c d0 .n))⟩ ?_ rfl ?_
 ·clear m28 H
  rintro k' ρ h ⟨x25, I, H, hf, hs⟩
  cases k' with
  | zero => cases H
  | succ k =>
   rw [paint_brush_tab.l1.m] at H
   refine k_fits _ hf ?_ rfl
   refine st 8 [] (k_op (lB (hs.bl d1) 2 rfl ?_))
   refine st 1 [] (k_ite H (fun c29 H => ?_) (fun c29 H => ?_))
   ·refine st 11 [true] (k_op (lB (hs.bl d1) 2 rfl ?_))
    obtain ⟨c30, H⟩ := guard_pos H
    refine st 1 [] (k_val (elemPtr a21 (x25.toNat * 6)) (pI (e := 57) (ik := .i64) (hs.sO d0) c30 c29) ?_)
    obtain ⟨y32, g31, q33⟩ := (hs.sO d0).toSl.seg c30 c29
    obtain rfl := t_api_Cell.open_ q33
    refine k_op (lG g31 ?_)
    refine k_op (nA hs [.bool false, .bool false, .bool false, .int .i64 0, .bool false, .int .u8 0] (.agg #[.bool false, .bool false, .bool false, .int .i64 0, .bool false, .int .u8 0]) ?_)
    intro b34 h hs
    refine k_op (sN hs 0 [.bool ((at_ x0.s'.Cells x25).Field), .bool (((at_ x0.s'.Cells x25).Attr).Protected), .bool (((at_ x0.s'.Cells x25).Attr).Numeric), .int .i64 (((at_ x0.s'.Cells x25).Attr).Show), .bool (((at_ x0.s'.Cells x25).Attr).Modified), .int .u8 ((at_ x0.s'.Cells x25).Char)] [.bool ((at_ x0.s'.Cells x25).Field), .bool (((at_ x0.s'.Cells x25).Attr).Protected), .bool (((at_ x0.s'.Cells x25).Attr).Numeric), .int .i64 (((at_ x0.s'.Cells x25).Attr).Show), .bool (((at_ x0.s'.Cells x25).Attr).Modified), .int .u8 ((at_ x0.s'.Cells x25).Char)] (ones_of rfl) ?_)
    intro h hs
    refine st 6 [] (k_op (lN (hs.bl d2) 0 6 ?_))
    obtain ⟨hk, bk⟩ := hs.call tk0 (.c (qO d1) .n)
    refine st 1 [] (k_call H (fun _ m => grid_On.calls m hk) ?_)
    rintro t35 _ h H ⟨I, _, ⟨rfl, rfl⟩, hk⟩
    replace hs := bk hk ct0 rfl
    refine st 5 [] (k_op (lB (hs.bl d0) 0 rfl ?_))
    refine k_spl H (fun c36 H => ?_) (fun c36 H => ?_)
    ·refine st 3 [] (k_op (lB (hs.bl d0) 1 rfl ?_))
     refine k_spl H (fun c37 H => ?_) (fun c37 H => ?_)
     ·refine st 23 [false] ?_
      exact k_endL ⟨k, Nat.lt_succ_self _, (w64 (x25 + 1)), I, H, ⟨by kernel_rfl, by kernel_rfl, trivial⟩, hs.pk (.c d1 (.c d1 .n))⟩
     ·refine st 7 [] (k_op (lB (hs.bl d2) 2 rfl ?_))
      obtain ⟨c38, H⟩ := guard_pos H
      obtain ⟨c39, H⟩ := guard_pos H
      refine st 1 [] (k_val (elemPtr a21 (t35.toNat * 6)) (pI (e := 57) (ik := .i64) (hs.sO d1) c38 c39) ?_)
      refine k_val (elemPtr a21 (t35.toNat * 6 + 0)) (pF (off := 0) (hs.sO d1) c38 c39) ?_
      obtain ⟨y41, g40, q42⟩ := (hs.sO d1).toSl.seg c38 c39
      obtain rfl := t_api_Cell.open_ q42
      refine k_op (lC (seg_cell (f := 0) g40 rfl) ?_)
      refine k_spl H (fun c43 H => ?_) (fun c43 H => ?_)
      ·refine st 11 [false] ?_
       exact k_endL ⟨k, Nat.lt_succ_self _, (w64 (x25 + 1)), I, H, ⟨by kernel_rfl, by kernel_rfl, trivial⟩, hs.pk (.c d1 (.c d1 .n))⟩
      ·refine st 10 [true] (k_op (sB (v := .int .i64 t35) (hs.f d2) cw6 ?_))
       intro h hs
       refine st 1 [] ?_
       refine k_retQ (krL ?_)
       obtain rfl := Option.some.inj H
       obtain rfl := Option.some.inj HR27
       exact ⟨_, by kernel_rfl, I, _, ⟨a21, p22, x0.s'.Cells.length, rfl, rfl⟩, hs.pk (.c d0 (.c d1 .n))⟩
    ·refine st 27 [false] ?_
     exact k_endL ⟨k, Nat.lt_succ_self _, (w64 (x25 + 1)), I, H, ⟨by kernel_rfl, by kernel_rfl, trivial⟩, hs.pk (.c d1 (.c d1 .n))⟩
   ·refine st 2 [false] ?_
    refine k_out rfl ?_
    obtain rfl := Option.some.inj H
    exact xE ⟨I, rfl, ⟨by kernel_rfl, trivial⟩, hs.pk (.c d0 (.c d0 .n))⟩
 ·rintro ρ h ⟨I, rfl, hf, hs⟩
  have H := HR27
  try dsimp only at H
  refine k_fits _ hf ?_ rfl
  refine st 4 [] (k_op (sB (v := .int .i64 0) (hs.f d1) cw6 ?_))
  intro h hs
  refine st 1 [] ?_
  refine k_fin ?_
  obtain rfl := Option.some.inj H
  exact ⟨_, by kernel_rfl, I, _, ⟨a21, p22, x0.s'.Cells.length, rfl, rfl⟩, hs.pk (.c d0 (.c d0 .n))⟩

/-! shutter/grid.Span -/
def grid_Span.l1.m (K : Nat) (x0 : api_Screen) (x2 : Int) : Nat → (List Int) → Int → Option ((List Int))
  | 0, _, _ => none
  | k + 1, x29, x34 => (if x34 = x2 then (some (x29)) else (if (x29.length : Int) < (x0.Cells.length : Int) then ((app x29 [x34]).bind fun l47 => ((grid_On.m x0 x34 1).bind fun t52 => (grid_Span.l1.m K x0 x2 k l47 t52))) else (some (x29))))
def grid_Span.m (K : Nat) (x0 : api_Screen) (x1 : Int) (x2 : Int) : Option (List Int) :=
  ((grid_On.m x0 x1 1).bind fun t28 => ((grid_Span.l1.m K x0 x2 K [x1] t28).bind fun x36 => (some x36)))

theorem grid_Span.calls {B I : Gh} {h : Heap} {K : Nat} {x0 : api_Screen} {x1 : Int} {x2 : Int} {a21 : Option Addr} {p22 : Nat} {n23 : Nat} {r : (List Int)} (H : grid_Span.m K x0 x1 x2 = some r)  :
    Fc Tryz.prog 108 #[.agg #[.int .i64 x0.Rows, .int .i64 x0.Cols, .slice a21 n23 p22, .int .i64 x0.Cursor, .bool x0.Locked, .bool x0.Insert], .int .i64 x1, .int .i64 x2] [rR t_api_Cell .b a21 p22 n23 x0.Cells] B I h (fun v L => ∃ (a53 : Option Addr) (p54 : Nat) (n55 : Nat), v = .slice a53 n55 p54 ∧ L = [rO (tInt .i64) .i a53 p54 n55 r]) := by
 refine fc_of fun E hs => ?_
 unfold grid_Span.m at H
 obtain rfl := hs.nR d0
 refine fn_of (args := [.agg #[.int .i64 x0.Rows, .int .i64 x0.Cols, .slice a21 x0.Cells.length p22, .int .i64 x0.Cursor, .bool x0.Locked, .bool x0.Insert], .int .i64 x1, .int .i64 x2]) (rs := [.tmp 6]) (N := 33) Tryz.func108 rfl rfl rfl rfl ?_
 refine st 2 [] (k_op (nB hs [.int .i64 x0.Rows, .int .i64 x0.Cols, .slice a21 x0.Cells.length p22, .int .i64 x0.Cursor, .bool x0.Locked, .bool x0.Insert] ?_))
 intro b25 h hs
 refine st 5 [] (k_op (nS (e := 3) hs .i (tInt .i64) ([x1] : List Int) [.int .i64 x1] 1 (.int .i64 0) (Reps.int (I := (Cl.G .i E.B I)) (k := .i64) (l := [x1])) ?_))
 intro b26 h hs
 refine st 5 [] (k_op (lN (hs.bl d1) 0 6 ?_))
 obtain ⟨hk, bk⟩ := hs.call tk0 (.c (qB d2) .n)
 refine st 1 [] (k_call H (fun _ m => grid_On.calls m hk) ?_)
 rintro t28 _ h H ⟨I, _, ⟨rfl, rfl⟩, hk⟩
 replace hs := bk hk ct0 rfl
 refine st 3 [] ?_
 obtain ⟨s35, m42, HR41⟩ := bind_some H
 refine k_loop 0 (fun k' ρ h => ∃ (x29 : List Int) (x34 : Int) (a30 : Option Addr) (p31 : Nat) (n32 : Nat) (I : Gh), grid_Span.l1.m K x0 x2 k' x29 x34 = some s35 ∧ Fits [(2, .int .i64 x2), (3, .pointer (some ⟨b25, 0, none⟩)), (7, .slice a30 n32 p31), (8, .int .i64 x34)] ρ ∧ St E [rO (tInt .i64) .i a30 p31 n32 x29, rR t_api_Cell .b a21 p22 x0.Cells.length x0.Cells, rB b25 [.int .i64 x0.Rows, .int .i64 x0.Cols, .slice a21 x0.Cells.length p22, .int .i64 x0.Cursor, .bool x0.Locked, .bool x0.Insert] 24] I h) (fun ρ h => ∃ (x36 : List Int) (a37 : Option Addr) (p38 : Nat) (n39 : Nat) (I : Gh), x36 = s35 ∧ Fits [(7, .slice a37 n39 p38)] ρ ∧ St E [rO (tInt .i64) .i a37 p38 n39 x36] I h) K ⟨[x1], t28, (some ⟨b26, 0, none⟩), 1, 1, I, m42, ⟨by kernel_rfl, by kernel_rfl, by kernel_rfl, by kernel_rfl, trivial⟩, hs.pk (.c d0 (.c d1 (.c d0 .n)))⟩ ?_ rfl ?_
 ·clear HR41 m42 H
  rintro k' ρ h ⟨x29, x34, a30, p31, n32, I, H, hf, hs⟩
  cases k' with
  | zero => cases H
  | succ k =>
   rw [grid_Span.l1.m] at H
   refine k_fits _ hf ?_ rfl
   obtain rfl := hs.nO d0
   refine st 5 [] (k_iteN H (fun c43 H => ?_) (fun c43 H => ?_))
   ·refine st 10 [false] ?_
    refine k_out rfl ?_
    obtain rfl := Option.some.inj H
    exact xE ⟨x29, a30, p31, x29.length, I, rfl, ⟨by kernel_rfl, trivial⟩, hs.pk (.c d0 .n)⟩
   ·refine st 4 [] (k_op (lB (hs.bl d2) 2 rfl ?_))
    refine st 1 [] (k_ite H (fun c44 H => ?_) (fun c44 H => ?_))
    ·refine st 9 [true] (k_op (nS (e := 3) hs .i (tInt .i64) ([x34] : List Int) [.int .i64 x34] 1 (.int .i64 0) (Reps.int (I := (Cl.G .i E.B I)) (k := .i64) (l := [x34])) ?_))
     intro b45 h hs
     replace hs := (hs.f d1)
     obtain ⟨l47, m48, H⟩ := bind_some H
     refine k_op (aO (e := 3) (bytes := 8) hs (hs.sO d1) m48 ?_)
     intro a49 p50 h hs
     refine st 4 [] (k_op (lN (hs.bl d3) 0 6 ?_))
     obtain ⟨hk, bk⟩ := hs.call tk0 (.c (qB d2) .n)
     refine st 1 [] (k_call H (fun _ m => grid_On.calls m hk) ?_)
     rintro t52 _ h H ⟨I, _, ⟨rfl, rfl⟩, hk⟩
     replace hs := bk hk ct0 rfl
     refine st 2 [] ?_
     exact k_endL ⟨k, Nat.lt_succ_self _, l47, t52, a49, p50, l47.length, I, H, ⟨by kernel_rfl, by kernel_rfl, by kernel_rfl, by kernel_rfl, trivial⟩, hs.pk (.c d0 (.c d1 (.c d1 .n)))⟩
    ·refine st 3 [false] ?_
     refine k_out rfl ?_
     obtain rfl := Option.some.inj H
     exact xE ⟨x29, a30, p31, x29.length, I, rfl, ⟨by kernel_rfl, trivial⟩, hs.pk (.c d0 .n)⟩
 ·rintro ρ h ⟨x36, a37, p38, n39, I, rfl, hf, hs⟩
  have H := HR41
  try dsimp only at H
  refine k_fits _ hf ?_ rfl
  obtain rfl := hs.nO d0
  refine st 5 [] ?_
  refine k_retQ ?_
  obtain rfl := Option.some.inj H
  exact ⟨_, by kernel_rfl, I, _, ⟨a37, p38, x36.length, rfl, rfl⟩, hs.pk (.c d0 .n)⟩

/-! shutter/field.Of -/
def field_Of.m (K : Nat) (x0 : api_Screen) (x1 : Int) : Option api_Attr :=
  ((field_Begin.m K x0 x1).bind fun t27 => (if t27 < 0 then (some (⟨false, false, 0, false⟩ : api_Attr)) else (if 0 ≤ t27 then (if t27 < (x0.Cells.length : Int) then (some ((at_ x0.Cells t27).Attr)) else none) else none)))

theorem field_Of.calls {B I : Gh} {h : Heap} {K : Nat} {x0 : api_Screen} {x1 : Int} {a21 : Option Addr} {p22 : Nat} {n23 : Nat} {r : api_Attr} (H : field_Of.m K x0 x1 = some r)  :
    Fc Tryz.prog 135 #[.agg #[.int .i64 x0.Rows, .int .i64 x0.Cols, .slice a21 n23 p22, .int .i64 x0.Cursor, .bool x0.Locked, .bool x0.Insert], .int .i64 x1] [rR t_api_Cell .b a21 p22 n23 x0.Cells] B I h (fun v L => v = .agg #[.bool r.Protected, .bool r.Numeric, .int .i64 r.Show, .bool r.Modified] ∧ L = []) := by
 refine fc_of fun E hs => ?_
 unfold field_Of.m at H
 obtain rfl := hs.nR d0
 refine fn_of2 (args := [.agg #[.int .i64 x0.Rows, .int .i64 x0.Cols, .slice a21 x0.Cells.length p22, .int .i64 x0.Cursor, .bool x0.Locked, .bool x0.Insert], .int .i64 x1]) (rs := [.cell 4 55]) (N := 18) Tryz.func135 rfl rfl rfl rfl ?_
 refine st 2 [] (k_op (nB hs [.int .i64 x0.Rows, .int .i64 x0.Cols, .slice a21 x0.Cells.length p22, .int .i64 x0.Cursor, .bool x0.Locked, .bool x0.Insert] ?_))
 intro b25 h hs
 refine k_op (nA hs [.bool false, .bool false, .int .i64 0, .bool false] (.agg #[.bool false, .bool false, .int .i64 0, .bool false]) ?_)
 intro b26 h hs
 refine st 3 [] (k_op (lN (hs.bl d1) 0 6 ?_))
 obtain ⟨hk, bk⟩ := hs.call tk0 (.c (qB d2) .n)
 refine st 1 [] (k_call H (fun _ m => field_Begin.calls m hk) ?_)
 rintro t27 _ h H ⟨I, _, ⟨rfl, rfl⟩, hk⟩
 replace hs := bk hk ct0 rfl
 refine st 6 [] (k_ite H (fun c28 H => ?_) (fun c28 H => ?_))
 ·refine st 5 [true] (k_op (sN hs 0 [.bool false, .bool false, .int .i64 0, .bool false] [.bool false, .bool false, .int .i64 0, .bool false] (ones_of rfl) ?_))
  intro h hs
  refine st 1 [] ?_
  refine k_retQ ?_
  obtain rfl := Option.some.inj H
  exact ⟨[.agg #[.bool false, .bool false, .int .i64 0, .bool false]], (.cons (.agg (by kernel_rfl) (by kernel_rfl) (by kernel_rfl) ((hs.bl d0).seg_ 0 4 (Nat.le_of_ble_eq_true rfl))) .nil), I, _, ⟨rfl, rfl⟩, hs.pk .n⟩
 ·refine st 6 [false] (k_op (lB (hs.bl d1) 2 rfl ?_))
  obtain ⟨c29, H⟩ := guard_pos H
  obtain ⟨c30, H⟩ := guard_pos H
  refine st 1 [] (k_val (elemPtr a21 (t27.toNat * 6)) (pI (e := 57) (ik := .i64) (hs.sR d2) c29 c30) ?_)
  refine k_val (elemPtr a21 (t27.toNat * 6 + 1)) (pF (off := 1) (hs.sR d2) c29 c30) ?_
  obtain ⟨y32, g31, q33⟩ := (hs.sR d2).toSl.seg c29 c30
  obtain rfl := t_api_Cell.open_ q33
  refine k_op (lG (seg_sub (f := 1) (k := 4) g31 rfl) ?_)
  refine k_op (sN hs 0 [.bool (((at_ x0.Cells t27).Attr).Protected), .bool (((at_ x0.Cells t27).Attr).Numeric), .int .i64 (((at_ x0.Cells t27).Attr).Show), .bool (((at_ x0.Cells t27).Attr).Modified)] [.bool (((at_ x0.Cells t27).Attr).Protected), .bool (((at_ x0.Cells t27).Attr).Numeric), .int .i64 (((at_ x0.Cells t27).Attr).Show), .bool (((at_ x0.Cells t27).Attr).Modified)] (ones_of rfl) ?_)
  intro h hs
  refine st 1 [] ?_
  refine k_retQ ?_
  obtain rfl := Option.some.inj H
  exact ⟨[.agg #[.bool (((at_ x0.Cells t27).Attr).Protected), .bool (((at_ x0.Cells t27).Attr).Numeric), .int .i64 (((at_ x0.Cells t27).Attr).Show), .bool (((at_ x0.Cells t27).Attr).Modified)]], (.cons (.agg (by kernel_rfl) (by kernel_rfl) (by kernel_rfl) ((hs.bl d0).seg_ 0 4 (Nat.le_of_ble_eq_true rfl))) .nil), I, _, ⟨rfl, rfl⟩, hs.pk .n⟩

/-! shutter/field.Open -/
def field_Open.m (K : Nat) (x0 : api_Screen) (x1 : Int) : Option Bool :=
  (if 0 ≤ x1 then (if x1 < (x0.Cells.length : Int) then (bif (at_ x0.Cells x1).Field then (some false) else ((field_Of.m K x0 x1).bind fun t32 => (some (!t32.Protected)))) else none) else none)

theorem field_Open.calls {B I : Gh} {h : Heap} {K : Nat} {x0 : api_Screen} {x1 : Int} {a21 : Option Addr} {p22 : Nat} {n23 : Nat} {r : Bool} (H : field_Open.m K x0 x1 = some r)  :
    Fc Tryz.prog 133 #[.agg #[.int .i64 x0.Rows, .int .i64 x0.Cols, .slice a21 n23 p22, .int .i64 x0.Cursor, .bool x0.Locked, .bool x0.Insert], .int .i64 x1] [rR t_api_Cell .b a21 p22 n23 x0.Cells] B I h (fun v L => v = .bool r ∧ L = []) := by
 refine fc_of fun E hs => ?_
 unfold field_Open.m at H
 obtain rfl := hs.nR d0
 refine fn_of (args := [.agg #[.int .i64 x0.Rows, .int .i64 x0.Cols, .slice a21 x0.Cells.length p22, .int .i64 x0.Cursor, .bool x0.Locked, .bool x0.Insert], .int .i64 x1]) (rs := [.tmp 4]) (N := 19) Tryz.func133 rfl rfl rfl rfl ?_
 refine st 2 [] (k_op (nB hs [.int .i64 x0.Rows, .int .i64 x0.Cols, .slice a21 x0.Cells.length p22, .int .i64 x0.Cursor, .bool x0.Locked, .bool x0.Insert] ?_))
 intro b25 h hs
 refine st 5 [] (k_op (lB (hs.bl d0) 2 rfl ?_))
 obtain ⟨c26, H⟩ := guard_pos H
 obtain ⟨c27, H⟩ := guard_pos H
 refine st 1 [] (k_val (elemPtr a21 (x1.toNat * 6)) (pI (e := 57) (ik := .i64) (hs.sR d1) c26 c27) ?_)
 refine k_val (elemPtr a21 (x1.toNat * 6 + 0)) (pF (off := 0) (hs.sR d1) c26 c27) ?_
 obtain ⟨y29, g28, q30⟩ := (hs.sR d1).toSl.seg c26 c27
 obtain rfl := t_api_Cell.open_ q30
 refine k_op (lC (seg_cell (f := 0) g28 rfl) ?_)
 refine k_spl H (fun c31 H => ?_) (fun c31 H => ?_)
 ·refine st 10 [] ?_
  refine k_retQ ?_
  obtain rfl := Option.some.inj H
  exact ⟨_, by kernel_rfl, I, _, ⟨rfl, rfl⟩, hs.pk .n⟩
 ·refine st 2 [] (k_op (lN (hs.bl d0) 0 6 ?_))
  obtain ⟨hk, bk⟩ := hs.call tk0 (.c (qB d1) .n)
  refine st 1 [] (k_call H (fun _ m => field_Of.calls m hk) ?_)
  rintro t32 _ h H ⟨I, _, ⟨rfl, rfl⟩, hk⟩
  replace hs := bk hk ct0 rfl
  refine st 5 [] ?_
  refine k_retQ ?_
  obtain rfl := Option.some.inj H
  exact ⟨_, by kernel_rfl, I, _, ⟨rfl, rfl⟩, hs.pk .n⟩

/-! (*shutter/paint.brush).erase -/
def paint_brush_erase.l1.m (K : Nat) (t25 : api_Screen) (t31 : (List Int)) : Nat → Int → Int → Int → (List api_Cell) → Int → Bool → Bool → Int → Option (Int × Int × (List api_Cell) × Int × Bool × Bool × Int)
  | 0, _, _, _, _, _, _, _, _ => none
  | k + 1, x36, x37, x38, x39, x44, x45, x46, x47 => (letJ (α := Bool → Option (Int × Int × (List api_Cell) × Int × Bool × Bool × Int)) (fun (x63 : Bool) => (bif x63 then (if 0 ≤ x36 then (if x36 < (t31.length : Int) then ((field_Open.m K t25 (at_ t31 x36)).bind fun t67 => bif t67 then (if 0 ≤ (at_ t31 x36) then (if (at_ t31 x36) < (x39.length : Int) then (paint_brush_erase.l1.m K t25 t31 k (w64 (x36 + 1)) x37 x38 (x39.set (at_ t31 x36).toNat (⟨(at_ x39 (at_ t31 x36)).Field, ((at_ x39 (at_ t31 x36)).Attr), 0⟩ : api_Cell)) x44 x45 x46 x47) else none) else none) else (paint_brush_erase.l1.m K t25 t31 k (w64 (x36 + 1)) x37 x38 x39 x44 x45 x46 x47)) else none) else none) else (some ((x37, x38, x39, x44, x45, x46, x47))))) fun (j64 : Bool → Option (Int × Int × (List api_Cell) × Int × Bool × Bool × Int)) => (if x36 < (t31.length : Int) then (j64 true) else (j64 false)))
def paint_brush_erase.m (K : Nat) (x0 : paint_brush) (x1 : Int) : Option paint_brush :=
  ((grid_Copy.m x0.s').bind fun t25 => ((grid_Span.m K t25 x0.at' x1).bind fun t31 => ((paint_brush_erase.l1.m K t25 t31 K 0 x0.s'.Rows x0.s'.Cols x0.s'.Cells x0.s'.Cursor x0.s'.Locked x0.s'.Insert x0.at').bind fun (x49, x50, x51, x56, x57, x58, x59) => (some (⟨(⟨x49, x50, x51, x56, x57, x58⟩ : api_Screen), x59⟩ : paint_brush)))))

theorem paint_brush_erase.calls {B I : Gh} {h : Heap} {K : Nat} {x0 : paint_brush} {x1 : Int} {b0 : Nat} {a21 : Option Addr} {p22 : Nat} {n23 : Nat} {r : paint_brush} (H : paint_brush_erase.m K x0 x1 = some r)  :
    Fc Tryz.prog 109 #[.pointer (some ⟨b0, 0, none⟩), .int .i64 x1] [rB b0 [.int .i64 x0.s'.Rows, .int .i64 x0.s'.Cols, .slice a21 n23 p22, .int .i64 x0.s'.Cursor, .bool x0.s'.Locked, .bool x0.s'.Insert, .int .i64 x0.at'] 111, rO t_api_Cell .i a21 p22 n23 x0.s'.Cells] B I h (fun v L => ∃ (a74 : Option Addr) (p75 : Nat) (n76 : Nat), v = .tuple #[] ∧ L = [rB b0 [.int .i64 r.s'.Rows, .int .i64 r.s'.Cols, .slice a74 n76 p75, .int .i64 r.s'.Cursor, .bool r.s'.Locked, .bool r.s'.Insert, .int .i64 r.at'] 111, rO t_api_Cell .i a74 p75 n76 r.s'.Cells]) := by
 refine fc_of fun E hs => ?_
 unfold paint_brush_erase.m at H
 obtain rfl := hs.nO d1
 refine fn_of (args := [.pointer (some ⟨b0, 0, none⟩), .int .i64 x1]) (rs := []) (N := 36) Tryz.func109 rfl rfl rfl rfl ?_
 refine st 5 [] (k_op (lN (hs.bl d0) 0 6 ?_))
 obtain ⟨hk, bk⟩ := hs.call tk0 (.c (qO d1) .n)
 refine k_call H (fun _ m => grid_Copy.calls m hk) ?_
 rintro t25 _ h H ⟨I, _, ⟨a26, p27, n28, rfl, rfl⟩, hk⟩
 replace hs := bk hk ct1 rfl
 obtain rfl := hs.nO d0
 refine k_op (nA hs [.int .i64 0, .int .i64 0, .slice none 0 0, .int .i64 0, .bool false, .bool false] (.agg #[.int .i64 0, .int .i64 0, .slice none 0 0, .int .i64 0, .bool false, .bool false]) ?_)
 intro b30 h hs
 refine k_op (sN hs 0 [.int .i64 t25.Rows, .int .i64 t25.Cols, .slice a26 t25.Cells.length p27, .int .i64 t25.Cursor, .bool t25.Locked, .bool t25.Insert] [.int .i64 t25.Rows, .int .i64 t25.Cols, .slice a26 t25.Cells.length p27, .int .i64 t25.Cursor, .bool t25.Locked, .bool t25.Insert] (ones_of rfl) ?_)
 intro h hs
 refine st 2 [] ?_
 obtain ⟨hs0, bk0⟩ := hs.call tk0 (.c (qL d0) (.c (qL d2) (.c (qO d1) .n)))
 have hs := hs0
 refine k_regD hs0 9 ?_
 refine aG 0 rfl hs.keep (lls hs0 d0 0 6 rfl) (nmL hs0 d0) ?_
 refine aRun [1, 2, 3] 5 hs.keep ?_
 refine aL 4 rfl hs.keep (ll hs0 d1 (n := 6) rfl) (nmL hs0 d1) ?_
 refine aRun [5, 8] 2 hs.keep ?_
 obtain ⟨hk, bk⟩ := hs.call tk0 (.c (qB d2) .n)
 refine aO1 6 rfl (o_call H (fun _ m => grid_Span.calls m hk) ?_)
 rintro t31 _ h H ⟨I, _, ⟨a32, p33, n34, rfl, rfl⟩, hk⟩
 replace hs := bk hk ct1 rfl
 obtain rfl := hs.nO d0
 refine ⟨hs.keep, ?_⟩
 refine aRun [7] 0 hs.keep ?_
 replace hs := hs.pk (.c d0 .n)
 replace hs := bk0 hs ct1 rfl
 refine aEnd ?_
 refine st 1 [] ?_
 obtain ⟨s48, m61, HR60⟩ := bind_some H
 refine k_loop 0 (fun k' ρ h => ∃ (x36 : Int) (x37 : Int) (x38 : Int) (x39 : List api_Cell) (x44 : Int) (x45 : Bool) (x46 : Bool) (x47 : Int) (a40 : Option Addr) (p41 : Nat) (n42 : Nat) (I : Gh), paint_brush_erase.l1.m K t25 t31 k' x36 x37 x38 x39 x44 x45 x46 x47 = some s48 ∧ Fits [(0, .pointer (some ⟨b0, 0, none⟩)), (4, .pointer (some ⟨b30, 0, none⟩)), (18, .slice a32 t31.length p33), (19, .int .i64 (t31.length : Int)), (20, .int .i64 x36)] ρ ∧ St E [rO (tInt .i64) .i a32 p33 t31.length t31, rO t_api_Cell .i a40 p41 n42 x39, rB b0 [.int .i64 x37, .int .i64 x38, .slice a40 n42 p41, .int .i64 x44, .bool x45, .bool x46, .int .i64 x47] 111, rO t_api_Cell .i a26 p27 t25.Cells.length t25.Cells, rB b30 [.int .i64 t25.Rows, .int .i64 t25.Cols, .slice a26 t25.Cells.length p27, .int .i64 t25.Cursor, .bool t25.Locked, .bool t25.Insert] 24] I h) (fun ρ h => ∃ (x49 : Int) (x50 : Int) (x51 : List api_Cell) (x56 : Int) (x57 : Bool) (x58 : Bool) (x59 : Int) (a52 : Option Addr) (p53 : Nat) (n54 : Nat) (I : Gh), (x49, x50, x51, x56, x57, x58, x59) = s48 ∧ Fits [] ρ ∧ St E [rO t_api_Cell .i a52 p53 n54 x51, rB b0 [.int .i64 x49, .int .i64 x50, .slice a52 n54 p53, .int .i64 x56, .bool x57, .bool x58, .int .i64 x59] 111] I h) K ⟨0, x0.s'.Rows, x0.s'.Cols, x0.s'.Cells, x0.s'.Cursor, x0.s'.Locked, x0.s'.Insert, x0.at', a21, p22, x0.s'.Cells.length, I, m61, ⟨by kernel_rfl, by kernel_rfl, by kernel_rfl, by kernel_rfl, by kernel_rfl, trivial⟩, hs.pk (.c d0 (.c d3 (.c d2 (.c d1 (.c d0 .n)))))⟩ ?_ rfl ?_
 ·clear HR60 m61 H
  rintro k' ρ h ⟨x36, x37, x38, x39, x44, x45, x46, x47, a40, p41, n42, I, H, hf, hs⟩
  cases k' with
  | zero => cases H
  | succ k =>
   rw [paint_brush_erase.l1.m] at H
   refine k_fits _ hf ?_ rfl
   obtain rfl := hs.nO d1
   refine st 1 [] ?_
   obtain ⟨j64, e73, H⟩ := letJ_some H
   refine k_join (fun ρ h => ∃ (x63 : Bool) (I : Gh), j64 x63 = some s48 ∧ Fits [(0, .pointer (some ⟨b0, 0, none⟩)), (4, .pointer (some ⟨b30, 0, none⟩)), (18, .slice a32 t31.length p33), (19, .int .i64 (t31.length : Int)), (20, .int .i64 x36), (21, .bool x63)] ρ ∧ St E [rO (tInt .i64) .i a32 p33 t31.length t31, rO t_api_Cell .i a40 p41 x39.length x39, rB b0 [.int .i64 x37, .int .i64 x38, .slice a40 x39.length p41, .int .i64 x44, .bool x45, .bool x46, .int .i64 x47] 111, rO t_api_Cell .i a26 p27 t25.Cells.length t25.Cells, rB b30 [.int .i64 t25.Rows, .int .i64 t25.Cols, .slice a26 t25.Cells.length p27, .int .i64 t25.Cursor, .bool t25.Locked, .bool t25.Insert] 24] I h) ?_ ?_
   ·refine st 1 [] (k_ite H (fun c62 H => ?_) (fun c62 H => ?_))
    ·refine st 1 [] ?_
     exact k_end ⟨true, I, H, ⟨by kernel_rfl, by kernel_rfl, by kernel_rfl, by kernel_rfl, by kernel_rfl, by kernel_rfl, trivial⟩, hs.pk (.c d0 (.c d0 (.c d0 (.c d0 (.c d0 .n)))))⟩
    ·refine st 1 [] ?_
     exact k_end ⟨false, I, H, ⟨by kernel_rfl, by kernel_rfl, by kernel_rfl, by kernel_rfl, by kernel_rfl, by kernel_rfl, trivial⟩, hs.pk (.c d0 (.c d0 (.c d0 (.c d0 (.c d0 .n)))))⟩
   ·clear H
    rintro ρ h ⟨x63, I, H, hf, hs⟩
    refine k_fits _ hf ?_ rfl
    subst e73
    try dsimp only at H
    cases x63
    ·rw [cond_false] at H
     refine st 2 [false] ?_
     refine k_out rfl ?_
     obtain rfl := Option.some.inj H
     exact xE ⟨x37, x38, x39, x44, x45, x46, x47, a40, p41, x39.length, I, rfl, trivial, hs.pk (.c d1 (.c d1 .n))⟩
    ·rw [cond_true] at H
     obtain ⟨c65, H⟩ := guard_pos H
     obtain ⟨c66, H⟩ := guard_pos H
     refine st 7 [true] (k_val (elemPtr a32 (x36.toNat * 1)) (pI (e := 3) (ik := .i64) (hs.sO d0) c65 c66) ?_)
     refine k_op (lC ((hs.sO d0).cell1 c65 c66) ?_)
     refine st 4 [] (k_op (lN (hs.bl d4) 0 6 ?_))
     obtain ⟨hk, bk⟩ := hs.call tk0 (.c (qO d3) .n)
     refine st 1 [] (k_call H (fun _ m => field_Open.calls m hk) ?_)
     rintro t67 _ h H ⟨I, _, ⟨rfl, rfl⟩, hk⟩
     replace hs := bk hk ct0 rfl
     cases t67
     ·rw [cond_false] at H
      refine st 8 [false] ?_
      exact k_endL ⟨k, Nat.lt_succ_self _, (w64 (x36 + 1)), x37, x38, x39, x44, x45, x46, x47, a40, p41, x39.length, I, H, ⟨by kernel_rfl, by kernel_rfl, by kernel_rfl, by kernel_rfl, by kernel_rfl, trivial⟩, hs.pk (.c d0 (.c d0 (.c d0 (.c d0 (.c d0 .n)))))⟩
     ·rw [cond_true] at H
      refine st 7 [true] (k_op (lB (hs.bl d2) 2 rfl ?_))
      obtain ⟨c68, H⟩ := guard_pos H
      obtain ⟨c69, H⟩ := guard_pos H
      refine st 1 [] (k_val (elemPtr a40 ((at_ t31 x36).toNat * 6)) (pI (e := 57) (ik := .i64) (hs.sO d1) c68 c69) ?_)
      refine k_val (elemPtr a40 ((at_ t31 x36).toNat * 6 + 5)) (pF (off := 5) (hs.sO d1) c68 c69) ?_
      obtain ⟨y71, g70, q72⟩ := (hs.sO d1).toSl.seg c68 c69
      obtain rfl := t_api_Cell.open_ q72
      replace hs := (hs.f d1)
      refine k_op (sE hs 5 [.int .u8 0] (⟨(at_ x39 (at_ t31 x36)).Field, ((at_ x39 (at_ t31 x36)).Attr), 0⟩ : api_Cell) c68 c69 g70 (ones_of rfl) rfl ?_)
      intro h hs
      refine st 6 [] ?_
      exact k_endL ⟨k, Nat.lt_succ_self _, (w64 (x36 + 1)), x37, x38, (x39.set (at_ t31 x36).toNat (⟨(at_ x39 (at_ t31 x36)).Field, ((at_ x39 (at_ t31 x36)).Attr), 0⟩ : api_Cell)), x44, x45, x46, x47, a40, p41, x39.length, I, H, ⟨by kernel_rfl, by kernel_rfl, by kernel_rfl, by kernel_rfl, by kernel_rfl, trivial⟩, hs.pk (.c d1 (.c d0 (.c d0 (.c d0 (.c d0 .n)))))⟩
 ·rintro ρ h ⟨x49, x50, x51, x56, x57, x58, x59, a52, p53, n54, I, rfl, hf, hs⟩
  have H := HR60
  try dsimp only at H
  obtain rfl := hs.nO d0
  refine k_fin ?_
  obtain rfl := Option.some.inj H
  exact ⟨_, by kernel_rfl, I, _, ⟨a52, p53, x51.length, rfl, rfl⟩, hs.pk (.c d1 (.c d0 .n))⟩

end Go.Proofs.YtfbcjibdgicaoaaGreatDoor.Sx
