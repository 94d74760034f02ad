/- Printed walks, part 5: each function's model, and that the code comes to it. -/
import Derived.Test.YtfbcjibdgicaoaaGreatDoorProg
import Derived.Test.YtfbcjibdgicaoaaGreatDoorV4
import Derived.Test.YtfbcjibdgicaoaaGreatDoorVF
import Derived.Test.YtfbcjibdgicaoaaGreatDoorV6
import Derived.Test.YtfbcjibdgicaoaaGreatDoorV7
import Derived.Test.YtfbcjibdgicaoaaGreatDoorG4
namespace Go.Proofs.YtfbcjibdgicaoaaGreatDoor.Sx
open Go
set_option maxRecDepth 100000
set_option maxHeartbeats 4000000

/-! shutter/input.fields -/
def input_fields.l1.m (K : Nat) (x1 : Int) : Nat → (List api_Entry) → (List Int) → Int → GoErr → Option ((List api_Entry) × (List Int) × Int × GoErr)
  | 0, _, _, _, _ => none
  | k + 1, x83, x88, x93, x94 => ((bytes_Cursor_Left.m (⟨x88, x93, x94⟩ : bytes_Cursor)).bind fun t114 => (if t114.1 > 0 then ((bytes_Cursor_Err.m (⟨t114.2.b', t114.2.at', x94⟩ : bytes_Cursor)).bind fun t120 => (if t120.1 = GoErr.nil then (letJ (α := Bool → Bool → (List Int) → Int → GoErr → Option ((List api_Entry) × (List Int) × Int × GoErr)) (fun (x153 : Bool) (x154 : Bool) (x155 : List Int) (x160 : Int) (x161 : GoErr) => ((bytes_Cursor_Byte.m (⟨x155, x160, x161⟩ : bytes_Cursor)).bind fun t165 => ((bytes_Cursor_Addr.m K t165.2 x1).bind fun t172 => ((input_letters.m K t172.2).bind fun t179 => ((app x83 [(⟨t172.1, t179.1⟩ : api_Entry)]).bind fun l192 => (input_fields.l1.m K x1 k l192 t179.2.b' t179.2.at' t179.2.err')))))) fun (j164 : Bool → Bool → (List Int) → Int → GoErr → Option ((List api_Entry) × (List Int) × Int × GoErr)) => ((bytes_Cursor_Peek.m (⟨t114.2.b', t120.2.at', t120.2.err'⟩ : bytes_Cursor)).bind fun t128 => (if t128.1 = 17 then (if (x83.length : Int) > 0 then (if 0 < (x83.length : Int) then (if (at_ x83 0).Addr = (-1) then ((bytes_Cursor_Fail.m t128.2.2 (GoErr.no 3)).bind fun t147 => (some ((x83, t128.2.2.b', t147.at', t147.err')))) else (j164 true true t128.2.2.b' t128.2.2.at' t128.2.2.err')) else none) else (j164 false false t128.2.2.b' t128.2.2.at' t128.2.2.err')) else ((bytes_Cursor_Fail.m t128.2.2 (GoErr.no 3)).bind fun t150 => (some ((x83, t128.2.2.b', t150.at', t150.err'))))))) else (some ((x83, t114.2.b', t120.2.at', t120.2.err'))))) else (some ((x83, t114.2.b', t114.2.at', x94)))))
def input_fields.m (K : Nat) (x0 : bytes_Cursor) (x1 : Int) : Option ((List api_Entry) × bytes_Cursor) :=
  (letJ (α := (List api_Entry) → (List Int) → Int → GoErr → Option ((List api_Entry) × bytes_Cursor)) (fun (x68 : List api_Entry) (x73 : List Int) (x78 : Int) (x79 : GoErr) => ((input_fields.l1.m K x1 K x68 x73 x78 x79).bind fun (x98, x103, x108, x109) => (some (x98, (⟨x103, x108, x109⟩ : bytes_Cursor))))) fun (j82 : (List api_Entry) → (List Int) → Int → GoErr → Option ((List api_Entry) × bytes_Cursor)) => (letJ (α := Int → Bool → (List Int) → Int → GoErr → Option ((List api_Entry) × bytes_Cursor)) (fun (x35 : Int) (x36 : Bool) (x37 : List Int) (x42 : Int) (x43 : GoErr) => (bif x36 then ((input_letter.m x35).bind fun t48 => bif t48 then ((input_letters.m K (⟨x37, x42, x43⟩ : bytes_Cursor)).bind fun t49 => ((app ([] : List api_Entry) [(⟨(-1), t49.1⟩ : api_Entry)]).bind fun l62 => (j82 l62 t49.2.b' t49.2.at' t49.2.err'))) else (j82 [] x37 x42 x43)) else (j82 [] x37 x42 x43))) fun (j46 : Int → Bool → (List Int) → Int → GoErr → Option ((List api_Entry) × bytes_Cursor)) => ((bytes_Cursor_Peek.m x0).bind fun t27 => (bif t27.2.1 then (j46 t27.1 true t27.2.2.b' t27.2.2.at' t27.2.2.err') else (j46 t27.1 false t27.2.2.b' t27.2.2.at' t27.2.2.err')))))

theorem input_fields.calls {B I : Gh} {h : Heap} {K : Nat} {x0 : bytes_Cursor} {x1 : Int} {b0 : Nat} {a21 : Option Addr} {p22 : Nat} {n23 : Nat} {v25 : Value} {r : ((List api_Entry) × bytes_Cursor)} (H : input_fields.m K x0 x1 = some r)  :
    Fc Tryz.prog 54 #[.pointer (some ⟨b0, 0, none⟩), .int .i64 x1] [rB b0 [.slice a21 n23 p22, .int .i64 x0.at', v25] 139, rR (tInt .u8) .i a21 p22 n23 x0.b', rE .i v25 x0.err'] B I h (fun v L => ∃ (a199 : Option Addr) (p200 : Nat) (n201 : Nat) (a203 : Option Addr) (p204 : Nat) (n205 : Nat) (v207 : Value), v = .slice a199 n201 p200 ∧ L = [rO t_api_Entry .i a199 p200 n201 r.1, rB b0 [.slice a203 n205 p204, .int .i64 r.2.at', v207] 139, rR (tInt .u8) .i a203 p204 n205 r.2.b', rE .i v207 r.2.err']) := by
 refine fc_of fun E hs => ?_
 unfold input_fields.m at H
 obtain rfl := hs.nR d1
 refine fn_of (args := [.pointer (some ⟨b0, 0, none⟩), .int .i64 x1]) (rs := [.tmp 4]) (N := 70) Tryz.func54 rfl rfl rfl rfl ?_
 refine st 9 [] ?_
 obtain ⟨j82, e198, H⟩ := letJ_some H
 refine k_join (fun ρ h => ∃ (x68 : List api_Entry) (x73 : List Int) (x78 : Int) (x79 : GoErr) (a69 : Option Addr) (p70 : Nat) (n71 : Nat) (a74 : Option Addr) (p75 : Nat) (n76 : Nat) (v80 : Value) (I : Gh), j82 x68 x73 x78 x79 = some r ∧ Fits [(0, .pointer (some ⟨b0, 0, none⟩)), (1, .int .i64 x1), (5, .slice a69 n71 p70)] ρ ∧ St E [rO t_api_Entry .i a69 p70 n71 x68, rR (tInt .u8) .i a74 p75 n76 x73, rE .i v80 x79, rB b0 [.slice a74 n76 p75, .int .i64 x78, v80] 139] I h) ?_ ?_
 ·refine st 1 [] ?_
  obtain ⟨j46, e67, H⟩ := letJ_some H
  refine k_join (fun ρ h => ∃ (x35 : Int) (x36 : Bool) (x37 : List Int) (x42 : Int) (x43 : GoErr) (a38 : Option Addr) (p39 : Nat) (n40 : Nat) (v44 : Value) (I : Gh), j46 x35 x36 x37 x42 x43 = some r ∧ Fits [(0, .pointer (some ⟨b0, 0, none⟩)), (1, .int .i64 x1), (5, .slice none 0 0), (6, .int .u8 x35), (7, .bool x36)] ρ ∧ St E [rR (tInt .u8) .i a38 p39 n40 x37, rE .i v44 x43, rB b0 [.slice a38 n40 p39, .int .i64 x42, v44] 139] I h) ?_ ?_
  ·obtain ⟨hk, bk⟩ := hs.call tk1 (.c (qK d0) (.c (xK d1) .n))
   refine st 2 [] (k_call H (fun _ m => bytes_Cursor_Peek.calls m hk) ?_)
   rintro t27 _ h H ⟨I, _, ⟨a28, p29, n30, v32, rfl, rfl⟩, hk⟩
   replace hs := bk hk ct3 rfl
   obtain rfl := hs.nR d1
   refine st 2 [] (k_if H (fun c34 H => ?_) (fun c34 H => ?_))
   ·refine st 3 [] ?_
    exact k_end ⟨t27.1, true, t27.2.2.b', t27.2.2.at', t27.2.2.err', a28, p29, t27.2.2.b'.length, v32, I, H, ⟨by kernel_rfl, by kernel_rfl, by kernel_rfl, by kernel_rfl, by kernel_rfl, trivial⟩, hs.pk (.c d1 (.c d1 (.c d0 .n)))⟩
   ·refine st 3 [] ?_
    exact k_end ⟨t27.1, false, t27.2.2.b', t27.2.2.at', t27.2.2.err', a28, p29, t27.2.2.b'.length, v32, I, H, ⟨by kernel_rfl, by kernel_rfl, by kernel_rfl, by kernel_rfl, by kernel_rfl, trivial⟩, hs.pk (.c d1 (.c d1 (.c d0 .n)))⟩
  ·clear H
   rintro ρ h ⟨x35, x36, x37, x42, x43, a38, p39, n40, v44, I, H, hf, hs⟩
   refine k_fits _ hf ?_ rfl
   subst e67
   try dsimp only at H
   obtain rfl := hs.nR d0
   refine st 2 [] (k_if H (fun c47 H => ?_) (fun c47 H => ?_))
   ·refine st 2 [] (k_call H (fun _ m => input_letter.calls m) ?_)
    rintro t48 _ _ H ⟨rfl, rfl⟩
    cases t48
    ·rw [cond_false] at H
     refine st 4 [false] ?_
     exact k_end ⟨[], x37, x42, x43, none, 0, 0, a38, p39, x37.length, v44, I, H, ⟨by kernel_rfl, by kernel_rfl, by kernel_rfl, trivial⟩, hs.pk (.f imON (.c d0 (.c d0 (.c d0 .n))))⟩
    ·rw [cond_true] at H
     obtain ⟨hk, bk⟩ := (hs.f d2).call tk1 (.c (qK d0) (.c (xK d1) .n))
     refine st 6 [true] (k_call H (fun _ m => input_letters.calls m hk) ?_)
     rintro t49 _ h H ⟨I, _, ⟨a50, p51, n52, a54, p55, n56, v58, rfl, rfl⟩, hk⟩
     replace hs := bk hk ct4 rfl
     obtain rfl := hs.nO d0
     obtain rfl := hs.nR d2
     obtain ⟨I, hs⟩ := hs.fO
     refine st 1 [] (k_op (nS (e := 67) hs .i t_api_Entry ([(⟨(-1), t49.1⟩ : api_Entry)] : List api_Entry) [.int .i64 (-1), .slice a50 t49.1.length p51] 2 (.agg #[.int .i64 0, .slice none 0 0]) (Reps.cons (T := t_api_Entry) (c := [.int .i64 (-1), .slice a50 t49.1.length p51]) (x := (⟨(-1), t49.1⟩ : api_Entry)) ⟨_, _, _, rfl, (hs.g d0)⟩ (.nil : Reps t_api_Entry (Cl.G .i E.B I) h [] [])) ?_))
     intro b60 h hs
     obtain ⟨l62, m63, H⟩ := bind_some H
     refine k_op (aN (T := t_api_Entry) (e := 67) (bytes := 32) hs .i (hs.sO d0) m63 ?_)
     intro a64 p65 h hs
     refine st 2 [] ?_
     exact k_end ⟨l62, t49.2.b', t49.2.at', t49.2.err', a64, p65, l62.length, a54, p55, t49.2.b'.length, v58, I, H, ⟨by kernel_rfl, by kernel_rfl, by kernel_rfl, trivial⟩, hs.pk (.c d0 (.c d3 (.c d3 (.c d2 .n))))⟩
   ·refine st 7 [false] ?_
    exact k_end ⟨[], x37, x42, x43, none, 0, 0, a38, p39, x37.length, v44, I, H, ⟨by kernel_rfl, by kernel_rfl, by kernel_rfl, trivial⟩, hs.pk (.f imON (.c d0 (.c d0 (.c d0 .n))))⟩
 ·clear H
  rintro ρ h ⟨x68, x73, x78, x79, a69, p70, n71, a74, p75, n76, v80, I, H, hf, hs⟩
  refine k_fits _ hf ?_ rfl
  subst e198
  try dsimp only at H
  obtain rfl := hs.nO d0
  obtain rfl := hs.nR d1
  refine st 2 [] ?_
  obtain ⟨s97, m113, HR112⟩ := bind_some H
  refine k_loop 0 (fun k' ρ h => ∃ (x83 : List api_Entry) (x88 : List Int) (x93 : Int) (x94 : GoErr) (a84 : Option Addr) (p85 : Nat) (n86 : Nat) (a89 : Option Addr) (p90 : Nat) (n91 : Nat) (v95 : Value) (I : Gh), input_fields.l1.m K x1 k' x83 x88 x93 x94 = some s97 ∧ Fits [(0, .pointer (some ⟨b0, 0, none⟩)), (1, .int .i64 x1), (5, .slice a84 n86 p85)] ρ ∧ St E [rO t_api_Entry .i a84 p85 n86 x83, rR (tInt .u8) .i a89 p90 n91 x88, rE .i v95 x94, rB b0 [.slice a89 n91 p90, .int .i64 x93, v95] 139] I h) (fun ρ h => ∃ (x98 : List api_Entry) (x103 : List Int) (x108 : Int) (x109 : GoErr) (a99 : Option Addr) (p100 : Nat) (n101 : Nat) (a104 : Option Addr) (p105 : Nat) (n106 : Nat) (v110 : Value) (I : Gh), (x98, x103, x108, x109) = s97 ∧ Fits [(5, .slice a99 n101 p100)] ρ ∧ St E [rO t_api_Entry .i a99 p100 n101 x98, rR (tInt .u8) .i a104 p105 n106 x103, rE .i v110 x109, rB b0 [.slice a104 n106 p105, .int .i64 x108, v110] 139] I h) K ⟨x68, x73, x78, x79, a69, p70, x68.length, a74, p75, x73.length, v80, I, m113, ⟨by kernel_rfl, by kernel_rfl, by kernel_rfl, trivial⟩, hs.pk (.c d0 (.c d0 (.c d0 (.c d0 .n))))⟩ ?_ rfl ?_
  ·clear HR112 m113 H
   rintro k' ρ h ⟨x83, x88, x93, x94, a84, p85, n86, a89, p90, n91, v95, I, H, hf, hs⟩
   cases k' with
   | zero => cases H
   | succ k =>
    rw [input_fields.l1.m] at H
    refine k_fits _ hf ?_ rfl
    obtain rfl := hs.nO d0
    obtain rfl := hs.nR d1
    obtain ⟨hk, bk⟩ := (hs.f d3).call tk1 (.c (qK d1) .n)
    refine st 4 [] (k_call H (fun _ m => bytes_Cursor_Left.calls m hk) ?_)
    rintro t114 _ h H ⟨I, _, ⟨a115, p116, n117, rfl, rfl⟩, hk⟩
    replace hs := bk hk ct2 rfl
    obtain rfl := hs.nR d1
    refine k_ite H (fun c119 H => ?_) (fun c119 H => ?_)
    ·obtain ⟨hk, bk⟩ := hs.call tk1 (.c (xK d3) .n)
     refine st 2 [] (k_call H (fun _ m => bytes_Cursor_Err.calls m hk) ?_)
     rintro t120 v121 h H ⟨I, _, ⟨_, v123, rfl, rfl⟩, hk⟩
     replace hs := bk hk ct3 rfl
     rcases (hs.er d0).cases with ⟨c125, rfl⟩ | ⟨c125, t126, u127, rfl⟩
     ·rw [if_pos c125] at H
      refine st 7 [true] ?_
      obtain ⟨j164, e197, H⟩ := letJ_some H
      refine k_join (fun ρ h => ∃ (x153 : Bool) (x154 : Bool) (x155 : List Int) (x160 : Int) (x161 : GoErr) (a156 : Option Addr) (p157 : Nat) (n158 : Nat) (v162 : Value) (I : Gh), j164 x153 x154 x155 x160 x161 = some s97 ∧ Fits [(0, .pointer (some ⟨b0, 0, none⟩)), (1, .int .i64 x1), (5, .slice a84 x83.length p85), (31, .pointer (some ⟨b0, 0, none⟩)), (32, .nilIface), (33, .bool true), (43, .slice a84 x83.length p85), (44, .int .i64 (x83.length : Int)), (45, .bool x153), (46, .bool x154), (52, .bool false)] ρ ∧ St E [rO t_api_Entry .i a84 p85 x83.length x83, rE .i .nilIface t120.1, rR (tInt .u8) .i a156 p157 n158 x155, rE .i v162 x161, rB b0 [.slice a156 n158 p157, .int .i64 x160, v162] 139] I h) ?_ ?_
      ·obtain ⟨hk, bk⟩ := (hs.f d1).call tk1 (.c (qK d2) (.c (xK d1) .n))
       refine st 3 [] (k_call H (fun _ m => bytes_Cursor_Peek.calls m hk) ?_)
       rintro t128 _ h H ⟨I, _, ⟨a129, p130, n131, v133, rfl, rfl⟩, hk⟩
       replace hs := bk hk ct3 rfl
       obtain rfl := hs.nR d1
       refine st 9 [] (k_iteN H (fun c135 H => ?_) (fun c135 H => ?_))
       ·refine st 3 [] (k_ite H (fun c136 H => ?_) (fun c136 H => ?_))
        ·obtain ⟨c137, H⟩ := guard_pos H
         refine st 2 [] (k_val (elemPtr a84 ((0 : Int).toNat * 2)) (pI (e := 67) (ik := .i64) (hs.sO d6) (by decide) c137) ?_)
         refine k_val (elemPtr a84 ((0 : Int).toNat * 2 + 0)) (pF (off := 0) (hs.sO d6) (by decide) c137) ?_
         obtain ⟨y139, g138, q140⟩ := (hs.sO d6).toSl.seg (by decide) c137
         obtain ⟨a141, p142, n143, rfl, q145⟩ := t_api_Entry.open_ q140
         obtain rfl := q145.2
         replace hs := hs.pR q145
         refine k_op (lC (seg_cell (f := 0) g138 rfl) ?_)
         refine k_ite H (fun c146 H => ?_) (fun c146 H => ?_)
         ·obtain ⟨hk, bk⟩ := (hs.f d1).call tk1 (.c (xK d2) (.c xC .n))
          refine st 8 [true] (k_call H (fun _ m => bytes_Cursor_Fail.calls m hk) ?_)
          rintro t147 _ h H ⟨I, _, ⟨v148, rfl, rfl⟩, hk⟩
          replace hs := bk hk ct2 rfl
          refine st 1 [] ?_
          refine k_out rfl ?_
          refine xJ (q_out rfl ?_)
          obtain rfl := Option.some.inj H
          exact xE ⟨x83, t128.2.2.b', t147.at', t147.err', a84, p85, x83.length, a129, p130, t128.2.2.b'.length, v148, I, rfl, ⟨by kernel_rfl, trivial⟩, hs.pk (.c d8 (.c d3 (.c d1 (.c d0 .n))))⟩
         ·refine st 5 [false] ?_
          exact k_end ⟨true, true, t128.2.2.b', t128.2.2.at', t128.2.2.err', a129, p130, t128.2.2.b'.length, v133, I, H, ⟨by kernel_rfl, by kernel_rfl, by kernel_rfl, by kernel_rfl, by kernel_rfl, by kernel_rfl, by kernel_rfl, by kernel_rfl, by kernel_rfl, by kernel_rfl, by kernel_rfl, trivial⟩, hs.pk (.c d7 (.c d4 (.c d2 (.c d2 (.c d1 .n)))))⟩
        ·refine st 11 [false] ?_
         exact k_end ⟨false, false, t128.2.2.b', t128.2.2.at', t128.2.2.err', a129, p130, t128.2.2.b'.length, v133, I, H, ⟨by kernel_rfl, by kernel_rfl, by kernel_rfl, by kernel_rfl, by kernel_rfl, by kernel_rfl, by kernel_rfl, by kernel_rfl, by kernel_rfl, by kernel_rfl, by kernel_rfl, trivial⟩, hs.pk (.c d6 (.c d3 (.c d1 (.c d1 (.c d0 .n)))))⟩
       ·obtain ⟨hk, bk⟩ := hs.call tk1 (.c (xK d1) (.c xC .n))
        refine st 18 [true] (k_call H (fun _ m => bytes_Cursor_Fail.calls m hk) ?_)
        rintro t150 _ h H ⟨I, _, ⟨v151, rfl, rfl⟩, hk⟩
        replace hs := bk hk ct2 rfl
        refine st 1 [] ?_
        refine k_out rfl ?_
        refine xJ (q_out rfl ?_)
        obtain rfl := Option.some.inj H
        exact xE ⟨x83, t128.2.2.b', t150.at', t150.err', a84, p85, x83.length, a129, p130, t128.2.2.b'.length, v151, I, rfl, ⟨by kernel_rfl, trivial⟩, hs.pk (.c d7 (.c d2 (.c d1 (.c d0 .n))))⟩
      ·clear H
       rintro ρ h ⟨x153, x154, x155, x160, x161, a156, p157, n158, v162, I, H, hf, hs⟩
       refine k_fits _ hf ?_ rfl
       subst e197
       try dsimp only at H
       obtain rfl := hs.nR d2
       obtain ⟨hk, bk⟩ := (hs.f d4).call tk1 (.c (qK d2) (.c (xK d3) .n))
       refine st 3 [] (k_call H (fun _ m => bytes_Cursor_Byte.calls m hk) ?_)
       rintro t165 _ h H ⟨I, _, ⟨a166, p167, n168, v170, rfl, rfl⟩, hk⟩
       replace hs := bk hk ct3 rfl
       obtain rfl := hs.nR d1
       obtain ⟨hk, bk⟩ := hs.call tk1 (.c (qK d0) (.c (xK d1) .n))
       refine st 5 [] (k_call H (fun _ m => bytes_Cursor_Addr.calls m hk) ?_)
       rintro t172 _ h H ⟨I, _, ⟨a173, p174, n175, v177, rfl, rfl⟩, hk⟩
       replace hs := bk hk ct3 rfl
       obtain rfl := hs.nR d1
       obtain ⟨hk, bk⟩ := hs.call tk1 (.c (qK d0) (.c (xK d1) .n))
       refine st 6 [] (k_call H (fun _ m => input_letters.calls m hk) ?_)
       rintro t179 _ h H ⟨I, _, ⟨a180, p181, n182, a184, p185, n186, v188, rfl, rfl⟩, hk⟩
       replace hs := bk hk ct4 rfl
       obtain rfl := hs.nO d0
       obtain rfl := hs.nR d2
       obtain ⟨I, hs⟩ := hs.fO
       refine st 1 [] (k_op (nS (e := 67) hs .i t_api_Entry ([(⟨t172.1, t179.1⟩ : api_Entry)] : List api_Entry) [.int .i64 t172.1, .slice a180 t179.1.length p181] 2 (.agg #[.int .i64 0, .slice none 0 0]) (Reps.cons (T := t_api_Entry) (c := [.int .i64 t172.1, .slice a180 t179.1.length p181]) (x := (⟨t172.1, t179.1⟩ : api_Entry)) ⟨_, _, _, rfl, (hs.g d0)⟩ (.nil : Reps t_api_Entry (Cl.G .i E.B I) h [] [])) ?_))
       intro b190 h hs
       replace hs := (hs.f d9)
       obtain ⟨l192, m193, H⟩ := bind_some H
       refine k_op (aO (e := 67) (bytes := 32) hs (hs.sO d1) m193 ?_)
       intro a194 p195 h hs
       refine st 3 [] ?_
       exact k_endL ⟨k, Nat.lt_succ_self _, l192, t179.2.b', t179.2.at', t179.2.err', a194, p195, l192.length, a184, p185, t179.2.b'.length, v188, I, H, ⟨by kernel_rfl, by kernel_rfl, by kernel_rfl, trivial⟩, hs.pk (.c d0 (.c d3 (.c d3 (.c d2 .n))))⟩
     ·rw [if_neg c125] at H
      refine st 4 [false] ?_
      refine k_out rfl ?_
      obtain rfl := Option.some.inj H
      exact xE ⟨x83, t114.2.b', t120.2.at', t120.2.err', a84, p85, x83.length, a115, p116, t114.2.b'.length, v123, I, rfl, ⟨by kernel_rfl, trivial⟩, hs.pk (.c d4 (.c d3 (.c d2 (.c d1 .n))))⟩
    ·refine st 7 [false] ?_
     refine k_out rfl ?_
     obtain rfl := Option.some.inj H
     exact xE ⟨x83, t114.2.b', t114.2.at', x94, a84, p85, x83.length, a115, p116, t114.2.b'.length, v95, I, rfl, ⟨by kernel_rfl, trivial⟩, hs.pk (.c d2 (.c d1 (.c d2 (.c d0 .n))))⟩
  ·rintro ρ h ⟨x98, x103, x108, x109, a99, p100, n101, a104, p105, n106, v110, I, rfl, hf, hs⟩
   have H := HR112
   try dsimp only at H
   refine k_fits _ hf ?_ rfl
   obtain rfl := hs.nO d0
   obtain rfl := hs.nR d1
   refine st 5 [] ?_
   refine k_retQ ?_
   obtain rfl := Option.some.inj H
   exact ⟨_, by kernel_rfl, I, _, ⟨a99, p100, x98.length, a104, p105, x103.length, (v110), rfl, rfl⟩, hs.pk (.c d0 (.c d2 (.c d0 (.c d0 .n))))⟩

/-! shutter/input.flat -/
def input_flat.m (x0 : GoErr) : Option GoErr := some (flatOf x0)
theorem input_flat.calls {B I : Gh} {h : Heap} {x0 : GoErr} {v1 : Value} {r : GoErr} (H : input_flat.m x0 = some r) : Fc Tryz.prog 55 #[v1] [rE .i v1 x0, rG] B I h (fun v L => ∃ w : Value, v = w ∧ L = [rE .i w r]) :=
  flat_fc (fun hJ q => spot_ret hJ q (input_spot.calls rfl)) (Option.some.inj H)

/-! shutter/input.Read -/
def input_Read.m (K : Nat) (x0 : (List Int)) (x1 : Int) : Option (api_In × GoErr) :=
  (if (x0.length : Int) > 8192 then ((input_spot.m 8192 (GoErr.no 6)).bind fun t27 => (some ((⟨0, 0, []⟩ : api_In), t27))) else ((bytes_New.m x0).bind fun t30 => ((bytes_Cursor_Byte.m t30).bind fun t38 => (letJ (α := Bool → Int → GoErr → Option (api_In × GoErr)) (fun (x54 : Bool) (x55 : Int) (x56 : GoErr) => (bif x54 then ((bytes_Cursor_Err.m (⟨t38.2.b', x55, x56⟩ : bytes_Cursor)).bind fun t60 => (some ((⟨0, 0, []⟩ : api_In), t60.1))) else (letJ (α := Bool → Option (api_In × GoErr)) (fun (x66 : Bool) => (bif x66 then ((input_spot.m 0 (GoErr.no 3)).bind fun t68 => (some ((⟨0, 0, []⟩ : api_In), t68))) else (letJ (α := Bool → Option (api_In × GoErr)) (fun (x72 : Bool) => (bif x72 then ((bytes_Cursor_Left.m (⟨t38.2.b', x55, x56⟩ : bytes_Cursor)).bind fun t74 => (if t74.1 > 0 then ((input_spot.m 1 (GoErr.no 1)).bind fun t80 => (some ((⟨0, 0, []⟩ : api_In), t80))) else (some ((⟨t38.1, 0, []⟩ : api_In), GoErr.nil)))) else ((bytes_Cursor_Addr.m K (⟨t38.2.b', x55, x56⟩ : bytes_Cursor) x1).bind fun t83 => ((input_fields.m K t83.2 x1).bind fun t90 => ((bytes_Cursor_Err.m t90.2).bind fun t101 => (if t101.1 = GoErr.nil then (some ((⟨t38.1, t83.1, t90.1⟩ : api_In), GoErr.nil)) else ((bytes_Cursor_Err.m (⟨t90.2.b', t101.2.at', t101.2.err'⟩ : bytes_Cursor)).bind fun t109 => ((input_flat.m t109.1).bind fun t114 => (some ((⟨0, 0, []⟩ : api_In), t114)))))))))) fun (j73 : Bool → Option (api_In × GoErr)) => ((attr_Bare.m t38.1).bind fun t71 => bif t71 then (j73 true) else (j73 false))))) fun (j67 : Bool → Option (api_In × GoErr)) => ((attr_Aid.m t38.1).bind fun t65 => bif t65 then (j67 false) else (j67 true))))) fun (j59 : Bool → Int → GoErr → Option (api_In × GoErr)) => ((bytes_Cursor_Err.m t38.2).bind fun t46 => (if t46.1 = GoErr.nil then (j59 false t46.2.at' t46.2.err') else (j59 true t46.2.at' t46.2.err')))))))

theorem input_Read.calls {B I : Gh} {h : Heap} {K : Nat} {x0 : (List Int)} {x1 : Int} {a21 : Option Addr} {p22 : Nat} {n23 : Nat} {r : (api_In × GoErr)} (H : input_Read.m K x0 x1 = some r)  :
    Fc Tryz.prog 17 #[.slice a21 n23 p22, .int .i64 x1] [rR (tInt .u8) .b a21 p22 n23 x0, rG] B I h (fun v L => ∃ (a120 : Option Addr) (p121 : Nat) (n122 : Nat) (v124 : Value), v = .tuple #[.agg #[.int .u8 r.1.Aid, .int .i64 r.1.Cursor, .slice a120 n122 p121], v124] ∧ L = [rO t_api_Entry .i a120 p121 n122 r.1.Fields, rE .i v124 r.2]) := by
 refine fc_of fun E hs => ?_
 unfold input_Read.m at H
 obtain rfl := hs.nR d0
 refine fn_of2 (args := [.slice a21 x0.length p22, .int .i64 x1]) (rs := [.cell 4 46, .tmp 5]) (N := 61) Tryz.func17 rfl rfl rfl rfl ?_
 refine st 2 [] (k_op (nA hs [.int .u8 0, .int .i64 0, .slice none 0 0] (.agg #[.int .u8 0, .int .i64 0, .slice none 0 0]) ?_))
 intro b25 h hs
 refine st 7 [] (k_ite H (fun c26 H => ?_) (fun c26 H => ?_))
 ·obtain ⟨hk, bk⟩ := hs.call tk0 (.c xC .n)
  refine st 6 [true] (k_call H (fun _ m => input_spot.calls m hk) ?_)
  rintro t27 v28 h H ⟨I, _, ⟨_, rfl, rfl⟩, hk⟩
  replace hs := bk hk ct1 rfl
  refine k_op (sN (hs.f d1) 0 [.int .u8 0, .int .i64 0, .slice none 0 0] [.int .u8 0, .int .i64 0, .slice none 0 0] (ones_of rfl) ?_)
  intro h hs
  refine st 2 [] ?_
  refine k_retQ ?_
  obtain rfl := Option.some.inj H
  exact ⟨[.agg #[.int .u8 0, .int .i64 0, .slice none 0 0], v28], (.cons (.agg (by kernel_rfl) (by kernel_rfl) (by kernel_rfl) ((hs.bl d0).seg_ 0 3 (Nat.le_of_ble_eq_true rfl))) (.cons (.tmp (by kernel_rfl)) .nil)), I, _, ⟨none, 0, 0, (v28), rfl, rfl⟩, hs.pk (.f imON (.c d1 .n))⟩
 ·obtain ⟨hk, bk⟩ := hs.call tk0 (.c (qB d1) .n)
  refine st 6 [false] (k_call H (fun _ m => bytes_New.calls m hk) ?_)
  rintro t30 _ h H ⟨I, _, ⟨b31, a32, p33, n34, v36, rfl, rfl⟩, hk⟩
  replace hs := bk hk ct3 rfl
  obtain rfl := hs.nR d1
  obtain ⟨hk, bk⟩ := hs.call tk1 (.c (qK d0) (.c (xK d1) .n))
  refine st 5 [] (k_call H (fun _ m => bytes_Cursor_Byte.calls m hk) ?_)
  rintro t38 _ h H ⟨I, _, ⟨a39, p40, n41, v43, rfl, rfl⟩, hk⟩
  replace hs := bk hk ct3 rfl
  obtain rfl := hs.nR d1
  refine st 1 [] (k_op (nA hs [.int .u8 0, .int .i64 0, .slice none 0 0] (.agg #[.int .u8 0, .int .i64 0, .slice none 0 0]) ?_))
  intro b45 h hs
  refine k_op (sN hs 0 [.int .u8 t38.1, .int .i64 0, .slice none 0 0] [.int .u8 t38.1, .int .i64 0, .slice none 0 0] (ones_of rfl) ?_)
  intro h hs
  refine st 4 [] ?_
  obtain ⟨j59, e119, H⟩ := letJ_some H
  refine k_join (fun ρ h => ∃ (x54 : Bool) (x55 : Int) (x56 : GoErr) (v57 : Value) (I : Gh), j59 x54 x55 x56 = some r ∧ Fits [(1, .int .i64 x1), (4, .pointer (some ⟨b25, 0, none⟩)), (6, .pointer (some ⟨b31, 0, none⟩)), (7, .pointer (some ⟨b45, 0, none⟩)), (19, .bool x54)] ρ ∧ St E [rB b25 [.int .u8 0, .int .i64 0, .slice none 0 0] 46, rR (tInt .u8) .i a39 p40 t38.2.b'.length t38.2.b', rE .i v57 x56, rB b31 [.slice a39 t38.2.b'.length p40, .int .i64 x55, v57] 139, rB b45 [.int .u8 t38.1, .int .i64 0, .slice none 0 0] 46, rG] I h) ?_ ?_
  ·obtain ⟨hk, bk⟩ := (hs.f d1).call tk1 (.c (xK d2) .n)
   refine st 2 [] (k_call H (fun _ m => bytes_Cursor_Err.calls m hk) ?_)
   rintro t46 v47 h H ⟨I, _, ⟨_, v49, rfl, rfl⟩, hk⟩
   replace hs := bk hk ct3 rfl
   rcases (hs.er d0).cases with ⟨c51, rfl⟩ | ⟨c51, t52, u53, rfl⟩
   ·rw [if_pos c51] at H
    refine st 3 [] ?_
    exact k_end ⟨false, t46.2.at', t46.2.err', v49, I, H, ⟨by kernel_rfl, by kernel_rfl, by kernel_rfl, by kernel_rfl, by kernel_rfl, trivial⟩, hs.pk (.c d8 (.c d4 (.c d2 (.c d1 (.c d1 (.c d5 .n))))))⟩
   ·rw [if_neg c51] at H
    refine st 3 [] ?_
    exact k_end ⟨true, t46.2.at', t46.2.err', v49, I, H, ⟨by kernel_rfl, by kernel_rfl, by kernel_rfl, by kernel_rfl, by kernel_rfl, trivial⟩, hs.pk (.c d8 (.c d4 (.c d2 (.c d1 (.c d1 (.c d5 .n))))))⟩
  ·clear H
   rintro ρ h ⟨x54, x55, x56, v57, I, H, hf, hs⟩
   refine k_fits _ hf ?_ rfl
   subst e119
   try dsimp only at H
   cases x54
   ·rw [cond_false] at H
    refine st 2 [false] ?_
    obtain ⟨j67, e118, H⟩ := letJ_some H
    refine k_join (fun ρ h => ∃ (x66 : Bool) (I : Gh), j67 x66 = some r ∧ Fits [(1, .int .i64 x1), (4, .pointer (some ⟨b25, 0, none⟩)), (6, .pointer (some ⟨b31, 0, none⟩)), (7, .pointer (some ⟨b45, 0, none⟩)), (26, .bool x66)] ρ ∧ St E [rB b25 [.int .u8 0, .int .i64 0, .slice none 0 0] 46, rR (tInt .u8) .i a39 p40 t38.2.b'.length t38.2.b', rE .i v57 x56, rB b31 [.slice a39 t38.2.b'.length p40, .int .i64 x55, v57] 139, rB b45 [.int .u8 t38.1, .int .i64 0, .slice none 0 0] 46, rG] I h) ?_ ?_
    ·refine st 2 [] (k_op (lB (hs.bl d4) 0 rfl ?_))
     refine k_call H (fun _ m => attr_Aid.calls m) ?_
     rintro t65 _ _ H ⟨rfl, rfl⟩
     cases t65
     ·rw [cond_false] at H
      refine st 3 [] ?_
      exact k_end ⟨true, I, H, ⟨by kernel_rfl, by kernel_rfl, by kernel_rfl, by kernel_rfl, by kernel_rfl, trivial⟩, hs.pk (.c d0 (.c d0 (.c d0 (.c d0 (.c d0 (.c d0 .n))))))⟩
     ·rw [cond_true] at H
      refine st 3 [] ?_
      exact k_end ⟨false, I, H, ⟨by kernel_rfl, by kernel_rfl, by kernel_rfl, by kernel_rfl, by kernel_rfl, trivial⟩, hs.pk (.c d0 (.c d0 (.c d0 (.c d0 (.c d0 (.c d0 .n))))))⟩
    ·clear H
     rintro ρ h ⟨x66, I, H, hf, hs⟩
     refine k_fits _ hf ?_ rfl
     subst e118
     try dsimp only at H
     cases x66
     ·rw [cond_false] at H
      refine st 2 [false] ?_
      obtain ⟨j73, e117, H⟩ := letJ_some H
      refine k_join (fun ρ h => ∃ (x72 : Bool) (I : Gh), j73 x72 = some r ∧ Fits [(1, .int .i64 x1), (4, .pointer (some ⟨b25, 0, none⟩)), (6, .pointer (some ⟨b31, 0, none⟩)), (7, .pointer (some ⟨b45, 0, none⟩)), (34, .bool x72)] ρ ∧ St E [rB b25 [.int .u8 0, .int .i64 0, .slice none 0 0] 46, rR (tInt .u8) .i a39 p40 t38.2.b'.length t38.2.b', rE .i v57 x56, rB b31 [.slice a39 t38.2.b'.length p40, .int .i64 x55, v57] 139, rB b45 [.int .u8 t38.1, .int .i64 0, .slice none 0 0] 46, rG] I h) ?_ ?_
      ·refine st 2 [] (k_op (lB (hs.bl d4) 0 rfl ?_))
       refine k_call H (fun _ m => attr_Bare.calls m) ?_
       rintro t71 _ _ H ⟨rfl, rfl⟩
       cases t71
       ·rw [cond_false] at H
        refine st 2 [] ?_
        exact k_end ⟨false, I, H, ⟨by kernel_rfl, by kernel_rfl, by kernel_rfl, by kernel_rfl, by kernel_rfl, trivial⟩, hs.pk (.c d0 (.c d0 (.c d0 (.c d0 (.c d0 (.c d0 .n))))))⟩
       ·rw [cond_true] at H
        refine st 2 [] ?_
        exact k_end ⟨true, I, H, ⟨by kernel_rfl, by kernel_rfl, by kernel_rfl, by kernel_rfl, by kernel_rfl, trivial⟩, hs.pk (.c d0 (.c d0 (.c d0 (.c d0 (.c d0 (.c d0 .n))))))⟩
      ·clear H
       rintro ρ h ⟨x72, I, H, hf, hs⟩
       refine k_fits _ hf ?_ rfl
       subst e117
       try dsimp only at H
       cases x72
       ·rw [cond_false] at H
        obtain ⟨hk, bk⟩ := (hs.f d3).call tk1 (.c (qK d1) (.c (xK d2) .n))
        refine st 7 [false] (k_call H (fun _ m => bytes_Cursor_Addr.calls m hk) ?_)
        rintro t83 _ h H ⟨I, _, ⟨a84, p85, n86, v88, rfl, rfl⟩, hk⟩
        replace hs := bk hk ct3 rfl
        obtain rfl := hs.nR d1
        refine st 1 [] (k_op (sB (v := .int .i64 t83.1) (hs.f d6) cw1 ?_))
        intro h hs
        obtain ⟨hk, bk⟩ := (hs.f d1).call tk1 (.c (qK d1) (.c (xK d2) .n))
        refine st 5 [] (k_call H (fun _ m => input_fields.calls m hk) ?_)
        rintro t90 _ h H ⟨I, _, ⟨a91, p92, n93, a95, p96, n97, v99, rfl, rfl⟩, hk⟩
        replace hs := bk hk ct4 rfl
        obtain rfl := hs.nO d0
        obtain rfl := hs.nR d2
        refine st 1 [] (k_op (sB (v := .slice a91 t90.1.length p92) (hs.f d4) cw2 ?_))
        intro h hs
        obtain ⟨hk, bk⟩ := (hs.f d2).call tk1 (.c (xK d3) .n)
        refine st 5 [] (k_call H (fun _ m => bytes_Cursor_Err.calls m hk) ?_)
        rintro t101 v102 h H ⟨I, _, ⟨_, v104, rfl, rfl⟩, hk⟩
        replace hs := bk hk ct3 rfl
        rcases (hs.er d0).cases with ⟨c106, rfl⟩ | ⟨c106, t107, u108, rfl⟩
        ·rw [if_pos c106] at H
         refine st 6 [false] (k_op (lN (hs.bl d3) 0 3 ?_))
         refine k_op (sN (hs.f d9) 0 [.int .u8 t38.1, .int .i64 t83.1, .slice a91 t90.1.length p92] [.int .u8 t38.1, .int .i64 t83.1, .slice a91 t90.1.length p92] (ones_of rfl) ?_)
         intro h hs
         refine st 2 [] ?_
         refine k_retQ ?_
         obtain rfl := Option.some.inj H
         exact ⟨[.agg #[.int .u8 t38.1, .int .i64 t83.1, .slice a91 t90.1.length p92], .nilIface], (.cons (.agg (by kernel_rfl) (by kernel_rfl) (by kernel_rfl) ((hs.bl d0).seg_ 0 3 (Nat.le_of_ble_eq_true rfl))) (.cons (.tmp (by kernel_rfl)) .nil)), I, _, ⟨a91, p92, t90.1.length, (.nilIface), rfl, rfl⟩, hs.pk (.c d5 (.f imEN .n))⟩
        ·rw [if_neg c106] at H
         obtain ⟨hk, bk⟩ := (hs.f d1).call tk1 (.c (xK d1) .n)
         refine st 7 [true] (k_call H (fun _ m => bytes_Cursor_Err.calls m hk) ?_)
         rintro t109 v110 h H ⟨I, _, ⟨_, v112, rfl, rfl⟩, hk⟩
         replace hs := bk hk ct3 rfl
         obtain ⟨hk, bk⟩ := hs.call tk0 (.c (xK d0) (.c (gK d14) .n))
         refine k_call H (fun _ m => input_flat.calls m hk) ?_
         rintro t114 v115 h H ⟨I, _, ⟨_, rfl, rfl⟩, hk⟩
         replace hs := bk hk ct1 rfl
         refine k_op (sN (hs.f d12) 0 [.int .u8 0, .int .i64 0, .slice none 0 0] [.int .u8 0, .int .i64 0, .slice none 0 0] (ones_of rfl) ?_)
         intro h hs
         refine st 2 [] ?_
         refine k_retQ ?_
         obtain rfl := Option.some.inj H
         exact ⟨[.agg #[.int .u8 0, .int .i64 0, .slice none 0 0], v115], (.cons (.agg (by kernel_rfl) (by kernel_rfl) (by kernel_rfl) ((hs.bl d0).seg_ 0 3 (Nat.le_of_ble_eq_true rfl))) (.cons (.tmp (by kernel_rfl)) .nil)), I, _, ⟨none, 0, 0, (v115), rfl, rfl⟩, hs.pk (.f imON (.c d1 .n))⟩
       ·rw [cond_true] at H
        obtain ⟨hk, bk⟩ := (hs.f d3).call tk1 (.c (qK d1) .n)
        refine st 5 [true] (k_call H (fun _ m => bytes_Cursor_Left.calls m hk) ?_)
        rintro t74 _ h H ⟨I, _, ⟨a75, p76, n77, rfl, rfl⟩, hk⟩
        replace hs := bk hk ct2 rfl
        obtain rfl := hs.nR d1
        refine k_ite H (fun c79 H => ?_) (fun c79 H => ?_)
        ·obtain ⟨hk, bk⟩ := hs.call tk0 (.c xC .n)
         refine st 6 [true] (k_call H (fun _ m => input_spot.calls m hk) ?_)
         rintro t80 v81 h H ⟨I, _, ⟨_, rfl, rfl⟩, hk⟩
         replace hs := bk hk ct1 rfl
         refine k_op (sN (hs.f d3) 0 [.int .u8 0, .int .i64 0, .slice none 0 0] [.int .u8 0, .int .i64 0, .slice none 0 0] (ones_of rfl) ?_)
         intro h hs
         refine st 2 [] ?_
         refine k_retQ ?_
         obtain rfl := Option.some.inj H
         exact ⟨[.agg #[.int .u8 0, .int .i64 0, .slice none 0 0], v81], (.cons (.agg (by kernel_rfl) (by kernel_rfl) (by kernel_rfl) ((hs.bl d0).seg_ 0 3 (Nat.le_of_ble_eq_true rfl))) (.cons (.tmp (by kernel_rfl)) .nil)), I, _, ⟨none, 0, 0, (v81), rfl, rfl⟩, hs.pk (.f imON (.c d1 .n))⟩
        ·refine st 5 [false] (k_op (lN (hs.bl d5) 0 3 ?_))
         refine k_op (sN (hs.f d2) 0 [.int .u8 t38.1, .int .i64 0, .slice none 0 0] [.int .u8 t38.1, .int .i64 0, .slice none 0 0] (ones_of rfl) ?_)
         intro h hs
         refine st 2 [] ?_
         refine k_retQ ?_
         obtain rfl := Option.some.inj H
         exact ⟨[.agg #[.int .u8 t38.1, .int .i64 0, .slice none 0 0], .nilIface], (.cons (.agg (by kernel_rfl) (by kernel_rfl) (by kernel_rfl) ((hs.bl d0).seg_ 0 3 (Nat.le_of_ble_eq_true rfl))) (.cons (.tmp (by kernel_rfl)) .nil)), I, _, ⟨none, 0, 0, (.nilIface), rfl, rfl⟩, hs.pk (.f imON (.f imEN .n))⟩
     ·rw [cond_true] at H
      obtain ⟨hk, bk⟩ := hs.call tk0 (.c xC .n)
      refine st 5 [true] (k_call H (fun _ m => input_spot.calls m hk) ?_)
      rintro t68 v69 h H ⟨I, _, ⟨_, rfl, rfl⟩, hk⟩
      replace hs := bk hk ct1 rfl
      refine k_op (sN (hs.f d1) 0 [.int .u8 0, .int .i64 0, .slice none 0 0] [.int .u8 0, .int .i64 0, .slice none 0 0] (ones_of rfl) ?_)
      intro h hs
      refine st 2 [] ?_
      refine k_retQ ?_
      obtain rfl := Option.some.inj H
      exact ⟨[.agg #[.int .u8 0, .int .i64 0, .slice none 0 0], v69], (.cons (.agg (by kernel_rfl) (by kernel_rfl) (by kernel_rfl) ((hs.bl d0).seg_ 0 3 (Nat.le_of_ble_eq_true rfl))) (.cons (.tmp (by kernel_rfl)) .nil)), I, _, ⟨none, 0, 0, (v69), rfl, rfl⟩, hs.pk (.f imON (.c d1 .n))⟩
   ·rw [cond_true] at H
    obtain ⟨hk, bk⟩ := (hs.f d3).call tk1 (.c (xK d2) .n)
    refine st 5 [true] (k_call H (fun _ m => bytes_Cursor_Err.calls m hk) ?_)
    rintro t60 v61 h H ⟨I, _, ⟨_, v63, rfl, rfl⟩, hk⟩
    replace hs := bk hk ct3 rfl
    refine k_op (sN (hs.f d3) 0 [.int .u8 0, .int .i64 0, .slice none 0 0] [.int .u8 0, .int .i64 0, .slice none 0 0] (ones_of rfl) ?_)
    intro h hs
    refine st 2 [] ?_
    refine k_retQ ?_
    obtain rfl := Option.some.inj H
    exact ⟨[.agg #[.int .u8 0, .int .i64 0, .slice none 0 0], v61], (.cons (.agg (by kernel_rfl) (by kernel_rfl) (by kernel_rfl) ((hs.bl d0).seg_ 0 3 (Nat.le_of_ble_eq_true rfl))) (.cons (.tmp (by kernel_rfl)) .nil)), I, _, ⟨none, 0, 0, (v61), rfl, rfl⟩, hs.pk (.f imON (.c d1 .n))⟩

/-! slices.Equal[[]byte,byte] -/
def slices_Equal_bytes.l1.m (K : Nat) (x0 : (List Int)) (x1 : (List Int)) : Nat → Int → Option (Bool ⊕ (Unit))
  | 0, _ => none
  | k + 1, x32 => (letJ (α := Bool → Option (Bool ⊕ (Unit))) (fun (x37 : Bool) => (bif x37 then (if 0 ≤ x32 then (if x32 < (x0.length : Int) then (if x32 < (x1.length : Int) then (if (at_ x0 x32) = (at_ x1 x32) then (slices_Equal_bytes.l1.m K x0 x1 k (w64 (x32 + 1))) else (some (Sum.inl false))) else none) else none) else none) else (some (Sum.inr ())))) fun (j38 : Bool → Option (Bool ⊕ (Unit))) => (if x32 < (x0.length : Int) then (j38 true) else (j38 false)))
def slices_Equal_bytes.m (K : Nat) (x0 : (List Int)) (x1 : (List Int)) : Option Bool :=
  (if (x0.length : Int) = (x1.length : Int) then ((slices_Equal_bytes.l1.m K x0 x1 K 0).bind fun s33 => match s33 with | .inl q => (some q) | .inr _ => (some true)) else (some false))

theorem slices_Equal_bytes.calls {G : Gh} {K : Nat} {x0 : (List Int)} {x1 : (List Int)} {a21 : Option Addr} {p22 : Nat} {n23 : Nat} {a25 : Option Addr} {p26 : Nat} {n27 : Nat} {h : Heap} {r : Bool} (H : slices_Equal_bytes.m K x0 x1 = some r)  (s29 : Sn (tInt .u8) G h a21 p22 n23 x0) (s30 : Sn (tInt .u8) G h a25 p26 n27 x1) :
    Ret Tryz.prog 58 #[.slice a21 n23 p22, .slice a25 n27 p26] h (fun v h' => .bool r = v ∧ h' = h) := by
 unfold slices_Equal_bytes.m at H
 obtain rfl := s29.len.symm
 obtain rfl := s30.len.symm
 refine fn_of (args := [.slice a21 x0.length p22, .slice a25 x1.length p26]) (rs := [.tmp 4]) (N := 26) Tryz.func58 rfl rfl rfl rfl ?_
 refine st 11 [] (k_iteN H (fun c31 H => ?_) (fun c31 H => ?_))
 ·refine st 11 [false] ?_
  obtain ⟨s33, m35, HR34⟩ := bind_some H
  refine k_loop 0 (fun k' ρ h1 => ∃ (x32 : Int), slices_Equal_bytes.l1.m K x0 x1 k' x32 = some s33 ∧ Fits [(0, .slice a21 x0.length p22), (1, .slice a25 x1.length p26), (12, .int .i64 (x0.length : Int)), (13, .int .i64 x32)] ρ ∧ h = h1) (fun ρ h1 => Sum.inr () = s33 ∧ Fits [] ρ ∧ h = h1) K ⟨0, m35, ⟨by kernel_rfl, by kernel_rfl, by kernel_rfl, by kernel_rfl, trivial⟩, rfl⟩ ?_ rfl ?_
  ·clear m35 H
   rintro k' ρ h1 ⟨x32, H, hf, rfl⟩
   cases k' with
   | zero => cases H
   | succ k =>
    rw [slices_Equal_bytes.l1.m] at H
    refine k_fits _ hf ?_ rfl
    refine st 1 [] ?_
    obtain ⟨j38, e43, H⟩ := letJ_some H
    refine k_join (fun ρ h1 => ∃ (x37 : Bool), j38 x37 = some s33 ∧ Fits [(0, .slice a21 x0.length p22), (1, .slice a25 x1.length p26), (12, .int .i64 (x0.length : Int)), (13, .int .i64 x32), (14, .bool x37)] ρ ∧ h = h1) ?_ ?_
    ·refine st 1 [] (k_ite H (fun c36 H => ?_) (fun c36 H => ?_))
     ·refine st 1 [] ?_
      exact k_end ⟨true, H, ⟨by kernel_rfl, by kernel_rfl, by kernel_rfl, by kernel_rfl, by kernel_rfl, trivial⟩, rfl⟩
     ·refine st 1 [] ?_
      exact k_end ⟨false, H, ⟨by kernel_rfl, by kernel_rfl, by kernel_rfl, by kernel_rfl, by kernel_rfl, trivial⟩, rfl⟩
    ·clear H
     rintro ρ h1 ⟨x37, H, hf, rfl⟩
     refine k_fits _ hf ?_ rfl
     subst e43
     try dsimp only at H
     cases x37
     ·rw [cond_false] at H
      refine st 2 [false] ?_
      refine k_out rfl ?_
      obtain rfl := Option.some.inj H
      exact xE ⟨rfl, trivial, rfl⟩
     ·rw [cond_true] at H
      refine st 11 [true] ?_
      refine k_regP 9 ?_
      obtain ⟨c39, H⟩ := guard_pos H
      obtain ⟨c40, H⟩ := guard_pos H
      refine aRun [0, 1] 7 Keep.refl ?_
      refine aP 2 (elemPtr a21 (x32.toNat * 1)) rfl (pI (e := 5) (ik := .i64) s29 c39 c40) Keep.refl ?_
      refine aL 3 rfl Keep.refl (s29.cell1 c39 c40) (fun _ _ x => x) ?_
      obtain ⟨c41, H⟩ := guard_pos H
      refine aRun [4, 5] 3 Keep.refl ?_
      refine aP 6 (elemPtr a25 (x32.toNat * 1)) rfl (pI (e := 5) (ik := .i64) s30 c39 c41) Keep.refl ?_
      refine aL 7 rfl Keep.refl (s30.cell1 c39 c41) (fun _ _ x => x) ?_
      by_cases c42 : (at_ x0 x32) = (at_ x1 x32)
      ·rw [if_pos c42] at H
       refine aP 8 (.bool false) rfl (pr_bool (by kernel_rfl) (neF c42)) Keep.refl ?_
       refine aEnd ?_
       refine st 7 [false] ?_
       exact k_endL ⟨k, Nat.lt_succ_self _, (w64 (x32 + 1)), H, ⟨by kernel_rfl, by kernel_rfl, by kernel_rfl, by kernel_rfl, trivial⟩, rfl⟩
      ·rw [if_neg c42] at H
       refine aP 8 (.bool true) rfl (pr_bool (by kernel_rfl) (neT c42)) Keep.refl ?_
       refine aEnd ?_
       refine st 5 [true] ?_
       refine k_retQ (krL ?_)
       obtain rfl := Option.some.inj H
       obtain rfl := Option.some.inj HR34
       exact ⟨_, by kernel_rfl, rfl, rfl⟩
  ·rintro ρ h1 ⟨rfl, hf, rfl⟩
   have H := HR34
   try dsimp only at H
   refine k_fits _ hf ?_ rfl
   refine st 4 [] ?_
   refine k_retQ ?_
   obtain rfl := Option.some.inj H
   exact ⟨_, by kernel_rfl, rfl, rfl⟩
 ·refine st 6 [true] ?_
  refine k_retQ ?_
  obtain rfl := Option.some.inj H
  exact ⟨_, by kernel_rfl, rfl, rfl⟩

/-! shutter/input.Same$1 -/
def input_Same_1.m (K : Nat) (x0 : api_Entry) (x1 : api_Entry) : Option Bool :=
  (if x0.Addr = x1.Addr then ((slices_Equal_bytes.m K x0.Text x1.Text).bind fun t32 => (some t32)) else (some false))

theorem input_Same_1.calls {B I : Gh} {h : Heap} {K : Nat} {x0 : api_Entry} {x1 : api_Entry} {a21 : Option Addr} {p22 : Nat} {n23 : Nat} {a25 : Option Addr} {p26 : Nat} {n27 : Nat} {r : Bool} (H : input_Same_1.m K x0 x1 = some r)  :
    Fc Tryz.prog 57 #[.agg #[.int .i64 x0.Addr, .slice a21 n23 p22], .agg #[.int .i64 x1.Addr, .slice a25 n27 p26]] [rR (tInt .u8) .b a21 p22 n23 x0.Text, rR (tInt .u8) .b a25 p26 n27 x1.Text] B I h (fun v L => v = .bool r ∧ L = []) := by
 refine fc_of fun E hs => ?_
 unfold input_Same_1.m at H
 obtain rfl := hs.nR d0
 obtain rfl := hs.nR d1
 refine fn_of (args := [.agg #[.int .i64 x0.Addr, .slice a21 x0.Text.length p22], .agg #[.int .i64 x1.Addr, .slice a25 x1.Text.length p26]]) (rs := [.tmp 4]) (N := 17) Tryz.func57 rfl rfl rfl rfl ?_
 refine st 2 [] (k_op (nB hs [.int .i64 x0.Addr, .slice a21 x0.Text.length p22] ?_))
 intro b29 h hs
 refine k_op (nB hs [.int .i64 x1.Addr, .slice a25 x1.Text.length p26] ?_)
 intro b30 h hs
 refine st 5 [] (k_op (lB (hs.bl d1) 0 rfl ?_))
 refine st 1 [] (k_op (lB (hs.bl d0) 0 rfl ?_))
 refine k_ite H (fun c31 H => ?_) (fun c31 H => ?_)
 ·refine st 2 [] (k_op (lB (hs.bl d1) 1 rfl ?_))
  refine st 1 [] (k_op (lB (hs.bl d0) 1 rfl ?_))
  refine k_call H (fun _ m => slices_Equal_bytes.calls m (hs.sR d2) (hs.sR d3)) ?_
  rintro t32 _ _ H ⟨rfl, rfl⟩
  refine st 3 [] ?_
  refine k_retQ ?_
  obtain rfl := Option.some.inj H
  exact ⟨_, by kernel_rfl, I, _, ⟨rfl, rfl⟩, hs.pk .n⟩
 ·refine st 9 [] ?_
  refine k_retQ ?_
  obtain rfl := Option.some.inj H
  exact ⟨_, by kernel_rfl, I, _, ⟨rfl, rfl⟩, hs.pk .n⟩

/-! slices.EqualFunc[[]shutter/api.Entry,[]shutter/api.Entry,shutter/api.Entry,shutter/api.Entry] -/
def slices_EqualFunc_api_Entry__input_Same_1.l1.m (K : Nat) (x0 : (List api_Entry)) (x1 : (List api_Entry)) : Nat → Int → Option (Bool ⊕ (Unit))
  | 0, _ => none
  | k + 1, x30 => (letJ (α := Bool → Option (Bool ⊕ (Unit))) (fun (x35 : Bool) => (bif x35 then (if 0 ≤ x30 then (if x30 < (x0.length : Int) then (if x30 < (x1.length : Int) then ((input_Same_1.m K (at_ x0 x30) (at_ x1 x30)).bind fun t58 => bif t58 then (slices_EqualFunc_api_Entry__input_Same_1.l1.m K x0 x1 k (w64 (x30 + 1))) else (some (Sum.inl false))) else none) else none) else none) else (some (Sum.inr ())))) fun (j36 : Bool → Option (Bool ⊕ (Unit))) => (if x30 < (x0.length : Int) then (j36 true) else (j36 false)))
def slices_EqualFunc_api_Entry__input_Same_1.m (K : Nat) (x0 : (List api_Entry)) (x1 : (List api_Entry)) : Option Bool :=
  (if (x0.length : Int) = (x1.length : Int) then ((slices_EqualFunc_api_Entry__input_Same_1.l1.m K x0 x1 K 0).bind fun s31 => match s31 with | .inl q => (some q) | .inr _ => (some true)) else (some false))

theorem slices_EqualFunc_api_Entry__input_Same_1.calls {B I : Gh} {h : Heap} {K : Nat} {x0 : (List api_Entry)} {x1 : (List api_Entry)} {a21 : Option Addr} {p22 : Nat} {n23 : Nat} {a25 : Option Addr} {p26 : Nat} {n27 : Nat} {r : Bool} (H : slices_EqualFunc_api_Entry__input_Same_1.m K x0 x1 = some r)  :
    Fc Tryz.prog 56 #[.slice a21 n23 p22, .slice a25 n27 p26, .func (.func 57) #[] #[]] [rR t_api_Entry .b a21 p22 n23 x0, rR t_api_Entry .b a25 p26 n27 x1] B I h (fun v L => v = .bool r ∧ L = []) := by
 refine fc_of fun E hs => ?_
 unfold slices_EqualFunc_api_Entry__input_Same_1.m at H
 obtain rfl := hs.nR d0
 obtain rfl := hs.nR d1
 refine fn_of (args := [.slice a21 x0.length p22, .slice a25 x1.length p26, .func (.func 57) #[] #[]]) (rs := [.tmp 6]) (N := 32) Tryz.func56 rfl rfl rfl rfl ?_
 refine st 11 [] (k_iteN H (fun c29 H => ?_) (fun c29 H => ?_))
 ·refine st 11 [false] ?_
  obtain ⟨s31, m33, HR32⟩ := bind_some H
  refine k_loop 0 (fun k' ρ h => ∃ (x30 : Int) (I : Gh), slices_EqualFunc_api_Entry__input_Same_1.l1.m K x0 x1 k' x30 = some s31 ∧ Fits [(1, .slice a25 x1.length p26), (2, .func (.func 57) #[] #[]), (15, .slice a21 x0.length p22), (16, .int .i64 (x0.length : Int)), (17, .int .i64 x30)] ρ ∧ St E [rR t_api_Entry .b a25 p26 x1.length x1, rR t_api_Entry .b a21 p22 x0.length x0] I h) (fun ρ h => ∃ (I : Gh), Sum.inr () = s31 ∧ Fits [] ρ ∧ St E [] I h) K ⟨0, I, m33, ⟨by kernel_rfl, by kernel_rfl, by kernel_rfl, by kernel_rfl, by kernel_rfl, trivial⟩, hs.pk (.c d1 (.c d0 .n))⟩ ?_ rfl ?_
  ·clear m33 H
   rintro k' ρ h ⟨x30, I, H, hf, hs⟩
   cases k' with
   | zero => cases H
   | succ k =>
    rw [slices_EqualFunc_api_Entry__input_Same_1.l1.m] at H
    refine k_fits _ hf ?_ rfl
    refine st 1 [] ?_
    obtain ⟨j36, e59, H⟩ := letJ_some H
    refine k_join (fun ρ h => ∃ (x35 : Bool) (I : Gh), j36 x35 = some s31 ∧ Fits [(1, .slice a25 x1.length p26), (2, .func (.func 57) #[] #[]), (15, .slice a21 x0.length p22), (16, .int .i64 (x0.length : Int)), (17, .int .i64 x30), (18, .bool x35)] ρ ∧ St E [rR t_api_Entry .b a25 p26 x1.length x1, rR t_api_Entry .b a21 p22 x0.length x0] I h) ?_ ?_
    ·refine st 1 [] (k_ite H (fun c34 H => ?_) (fun c34 H => ?_))
     ·refine st 1 [] ?_
      exact k_end ⟨true, I, H, ⟨by kernel_rfl, by kernel_rfl, by kernel_rfl, by kernel_rfl, by kernel_rfl, by kernel_rfl, trivial⟩, hs.pk (.c d0 (.c d0 .n))⟩
     ·refine st 1 [] ?_
      exact k_end ⟨false, I, H, ⟨by kernel_rfl, by kernel_rfl, by kernel_rfl, by kernel_rfl, by kernel_rfl, by kernel_rfl, trivial⟩, hs.pk (.c d0 (.c d0 .n))⟩
    ·clear H
     rintro ρ h ⟨x35, I, H, hf, hs⟩
     refine k_fits _ hf ?_ rfl
     subst e59
     try dsimp only at H
     cases x35
     ·rw [cond_false] at H
      refine st 2 [false] ?_
      refine k_out rfl ?_
      obtain rfl := Option.some.inj H
      exact xE ⟨I, rfl, trivial, hs.pk .n⟩
     ·rw [cond_true] at H
      obtain ⟨c37, H⟩ := guard_pos H
      obtain ⟨c38, H⟩ := guard_pos H
      refine st 8 [true] (k_val (elemPtr a21 (x30.toNat * 2)) (pI (e := 67) (ik := .i64) (hs.sR d1) c37 c38) ?_)
      obtain ⟨y40, g39, q41⟩ := (hs.sR d1).toSl.seg c37 c38
      obtain ⟨a42, p43, n44, rfl, q46⟩ := t_api_Entry.open_ q41
      obtain rfl := q46.2
      replace hs := hs.pR q46
      refine k_op (lG g39 ?_)
      refine k_op (nA hs [.int .i64 0, .slice none 0 0] (.agg #[.int .i64 0, .slice none 0 0]) ?_)
      intro b47 h hs
      refine st 1 [] (k_op (sN hs 0 [.int .i64 ((at_ x0 x30).Addr), .slice a42 (((at_ x0 x30).Text).length) p43] [.int .i64 ((at_ x0 x30).Addr), .slice a42 (((at_ x0 x30).Text).length) p43] (ones_of rfl) ?_))
      intro h hs
      obtain ⟨c48, H⟩ := guard_pos H
      refine st 5 [] (k_val (elemPtr a25 (x30.toNat * 2)) (pI (e := 67) (ik := .i64) (hs.sR d2) c37 c48) ?_)
      obtain ⟨y50, g49, q51⟩ := (hs.sR d2).toSl.seg c37 c48
      obtain ⟨a52, p53, n54, rfl, q56⟩ := t_api_Entry.open_ q51
      obtain rfl := q56.2
      replace hs := hs.pR q56
      refine k_op (lG g49 ?_)
      refine k_op (nA hs [.int .i64 0, .slice none 0 0] (.agg #[.int .i64 0, .slice none 0 0]) ?_)
      intro b57 h hs
      refine k_op (sN hs 0 [.int .i64 ((at_ x1 x30).Addr), .slice a52 (((at_ x1 x30).Text).length) p53] [.int .i64 ((at_ x1 x30).Addr), .slice a52 (((at_ x1 x30).Text).length) p53] (ones_of rfl) ?_)
      intro h hs
      refine st 4 [] (k_op (lN (hs.bl d2) 0 2 ?_))
      refine k_op (lN (hs.bl d0) 0 2 ?_)
      obtain ⟨hk, bk⟩ := hs.call tk0 (.c (qB d3) (.c (qB d1) .n))
      refine k_call H (fun _ m => input_Same_1.calls m hk) ?_
      rintro t58 _ h H ⟨I, _, ⟨rfl, rfl⟩, hk⟩
      replace hs := bk hk ct0 rfl
      cases t58
      ·rw [cond_false] at H
       refine st 7 [true] ?_
       refine k_retQ (krL ?_)
       obtain rfl := Option.some.inj H
       obtain rfl := Option.some.inj HR32
       exact ⟨_, by kernel_rfl, I, _, ⟨rfl, rfl⟩, hs.pk .n⟩
      ·rw [cond_true] at H
       refine st 9 [false] ?_
       exact k_endL ⟨k, Nat.lt_succ_self _, (w64 (x30 + 1)), I, H, ⟨by kernel_rfl, by kernel_rfl, by kernel_rfl, by kernel_rfl, by kernel_rfl, trivial⟩, hs.pk (.c d4 (.c d4 .n))⟩
  ·rintro ρ h ⟨I, rfl, hf, hs⟩
   have H := HR32
   try dsimp only at H
   refine k_fits _ hf ?_ rfl
   refine st 4 [] ?_
   refine k_retQ ?_
   obtain rfl := Option.some.inj H
   exact ⟨_, by kernel_rfl, I, _, ⟨rfl, rfl⟩, hs.pk .n⟩
 ·refine st 6 [true] ?_
  refine k_retQ ?_
  obtain rfl := Option.some.inj H
  exact ⟨_, by kernel_rfl, I, _, ⟨rfl, rfl⟩, hs.pk .n⟩

/-! shutter/input.Same -/
def input_Same.m (K : Nat) (x0 : api_In) (x1 : api_In) : Option Bool :=
  (if x0.Aid = x1.Aid then (if x0.Cursor = x1.Cursor then ((slices_EqualFunc_api_Entry__input_Same_1.m K x0.Fields x1.Fields).bind fun t33 => (some t33)) else (some false)) else (some false))

theorem input_Same.calls {B I : Gh} {h : Heap} {K : Nat} {x0 : api_In} {x1 : api_In} {a21 : Option Addr} {p22 : Nat} {n23 : Nat} {a25 : Option Addr} {p26 : Nat} {n27 : Nat} {r : Bool} (H : input_Same.m K x0 x1 = some r)  :
    Fc Tryz.prog 18 #[.agg #[.int .u8 x0.Aid, .int .i64 x0.Cursor, .slice a21 n23 p22], .agg #[.int .u8 x1.Aid, .int .i64 x1.Cursor, .slice a25 n27 p26]] [rR t_api_Entry .b a21 p22 n23 x0.Fields, rR t_api_Entry .b a25 p26 n27 x1.Fields] B I h (fun v L => v = .bool r ∧ L = []) := by
 refine fc_of fun E hs => ?_
 unfold input_Same.m at H
 obtain rfl := hs.nR d0
 obtain rfl := hs.nR d1
 refine fn_of (args := [.agg #[.int .u8 x0.Aid, .int .i64 x0.Cursor, .slice a21 x0.Fields.length p22], .agg #[.int .u8 x1.Aid, .int .i64 x1.Cursor, .slice a25 x1.Fields.length p26]]) (rs := [.tmp 4]) (N := 24) Tryz.func18 rfl rfl rfl rfl ?_
 refine st 2 [] (k_op (nB hs [.int .u8 x0.Aid, .int .i64 x0.Cursor, .slice a21 x0.Fields.length p22] ?_))
 intro b29 h hs
 refine k_op (nB hs [.int .u8 x1.Aid, .int .i64 x1.Cursor, .slice a25 x1.Fields.length p26] ?_)
 intro b30 h hs
 refine st 5 [] (k_op (lB (hs.bl d1) 0 rfl ?_))
 refine st 1 [] (k_op (lB (hs.bl d0) 0 rfl ?_))
 refine k_ite H (fun c31 H => ?_) (fun c31 H => ?_)
 ·refine st 2 [] (k_op (lB (hs.bl d1) 1 rfl ?_))
  refine st 1 [] (k_op (lB (hs.bl d0) 1 rfl ?_))
  refine k_ite H (fun c32 H => ?_) (fun c32 H => ?_)
  ·refine st 3 [] (k_op (lB (hs.bl d1) 2 rfl ?_))
   refine st 1 [] (k_op (lB (hs.bl d0) 2 rfl ?_))
   obtain ⟨hk, bk⟩ := hs.call tk0 (.c (qB d2) (.c (qB d3) .n))
   refine k_call H (fun _ m => slices_EqualFunc_api_Entry__input_Same_1.calls m hk) ?_
   rintro t33 _ h H ⟨I, _, ⟨rfl, rfl⟩, hk⟩
   replace hs := bk hk ct0 rfl
   refine st 3 [] ?_
   refine k_retQ ?_
   obtain rfl := Option.some.inj H
   exact ⟨_, by kernel_rfl, I, _, ⟨rfl, rfl⟩, hs.pk .n⟩
  ·refine st 10 [] ?_
   refine k_retQ ?_
   obtain rfl := Option.some.inj H
   exact ⟨_, by kernel_rfl, I, _, ⟨rfl, rfl⟩, hs.pk .n⟩
 ·refine st 16 [] ?_
  refine k_retQ ?_
  obtain rfl := Option.some.inj H
  exact ⟨_, by kernel_rfl, I, _, ⟨rfl, rfl⟩, hs.pk .n⟩

/-! shutter/shutterlaw18.ReadTells -/
def shutterlaw18_ReadTells.l1.m (K : Nat) (x0 : api_Screen) : Nat → Int → Bool → Int → Option (Int × Bool)
  | 0, _, _, _ => none
  | k + 1, x68, x69, x70 => (if x70 < (x0.Cells.length : Int) then (letJ (α := Bool → Option (Int × Bool)) (fun (x83 : Bool) => (if 0 ≤ x70 then (bif (at_ x0.Cells x70).Field then (bif ((at_ x0.Cells x70).Attr).Modified then (shutterlaw18_ReadTells.l1.m K x0 k (w64 (x68 + 1)) x83 (w64 (x70 + 1))) else (shutterlaw18_ReadTells.l1.m K x0 k x68 x83 (w64 (x70 + 1)))) else (shutterlaw18_ReadTells.l1.m K x0 k x68 x83 (w64 (x70 + 1)))) else none)) fun (j84 : Bool → Option (Int × Bool)) => (bif x69 then (j84 true) else (if 0 ≤ x70 then (bif (at_ x0.Cells x70).Field then (j84 true) else (j84 false)) else none))) else (some ((x68, x69))))
def shutterlaw18_ReadTells.m (K : Nat) (x0 : api_Screen) (x1 : Int) : Option Bool :=
  ((shutterlaw18_awake.m K).bind fun t26 => bif t26 then ((shutterref10_Few.m K x0).bind fun t27 => bif t27 then ((shutterref05_Aid.m x1).bind fun t28 => bif t28 then ((read_Modified.m K x0 x1).bind fun t29 => ((read_Reply.m K x0 246 x1).bind fun t37 => ((input_Read.m K t37.1 (x0.Cells.length : Int)).bind fun t44 => (if t29.2 = GoErr.nil then (if t37.2 = GoErr.nil then (if t44.2 = GoErr.nil then ((input_Same.m K t44.1 t29.1).bind fun t61 => bif t61 then ((input_Right.m K t29.1 (x0.Cells.length : Int)).bind fun t62 => (if t62 = GoErr.nil then ((shutterlaw18_ReadTells.l1.m K x0 K 0 false 0).bind fun (x72, x73) => ((shutterref05_Bare.m x1).bind fun t92 => bif t92 then (if (t29.1.Fields.length : Int) = 0 then (some true) else ((shutterref05_Bare.m x1).bind fun t94 => bif t94 then (some false) else (bif x73 then (some ((t29.1.Fields.length : Int) == x72)) else (some true)))) else ((shutterref05_Bare.m x1).bind fun t96 => bif t96 then (some false) else (bif x73 then (some ((t29.1.Fields.length : Int) == x72)) else (some true))))) else (some false))) else (some false)) else (some false)) else (some false)) else (some false))))) else ((shutterlaw18_awake.m K).bind fun t98 => (some t98))) else ((shutterlaw18_awake.m K).bind fun t99 => (some t99))) else ((shutterlaw18_awake.m K).bind fun t100 => (some t100)))

theorem shutterlaw18_ReadTells.calls {B I : Gh} {h : Heap} {K : Nat} {x0 : api_Screen} {x1 : Int} {a21 : Option Addr} {p22 : Nat} {n23 : Nat} {r : Bool} (H : shutterlaw18_ReadTells.m K x0 x1 = some r)  :
    Fc Tryz.prog 4 #[.agg #[.int .i64 x0.Rows, .int .i64 x0.Cols, .slice a21 n23 p22, .int .i64 x0.Cursor, .bool x0.Locked, .bool x0.Insert], .int .u8 x1] [rR t_api_Cell .b a21 p22 n23 x0.Cells, rG] B I h (fun v L => v = .bool r ∧ L = []) := by
 refine fc_of fun E hs => ?_
 unfold shutterlaw18_ReadTells.m at H
 obtain rfl := hs.nR d0
 refine fn_of (args := [.agg #[.int .i64 x0.Rows, .int .i64 x0.Cols, .slice a21 x0.Cells.length p22, .int .i64 x0.Cursor, .bool x0.Locked, .bool x0.Insert], .int .u8 x1]) (rs := [.tmp 4]) (N := 128) Tryz.func4 rfl rfl rfl rfl ?_
 refine st 2 [] (k_op (nB hs [.int .i64 x0.Rows, .int .i64 x0.Cols, .slice a21 x0.Cells.length p22, .int .i64 x0.Cursor, .bool x0.Locked, .bool x0.Insert] ?_))
 intro b25 h hs
 obtain ⟨hk, bk⟩ := hs.call tk0 (.c (gK d2) .n)
 refine st 5 [] (k_call H (fun _ m => shutterlaw18_awake.calls m hk) ?_)
 rintro t26 _ h H ⟨I, _, ⟨rfl, rfl⟩, hk⟩
 replace hs := bk hk ct0 rfl
 cases t26
 ·rw [cond_false] at H
  obtain ⟨hk, bk⟩ := hs.call tk0 (.c (gK d2) .n)
  refine st 15 [true] (k_call H (fun _ m => shutterlaw18_awake.calls m hk) ?_)
  rintro t100 _ h H ⟨I, _, ⟨rfl, rfl⟩, hk⟩
  replace hs := bk hk ct0 rfl
  refine st 2 [] ?_
  refine k_retQ ?_
  obtain rfl := Option.some.inj H
  exact ⟨_, by kernel_rfl, I, _, ⟨rfl, rfl⟩, hs.pk .n⟩
 ·rw [cond_true] at H
  refine st 2 [] (k_op (lN (hs.bl d0) 0 6 ?_))
  obtain ⟨hk, bk⟩ := hs.call tk0 (.c (qB d1) .n)
  refine k_call H (fun _ m => shutterref10_Few.calls m hk) ?_
  rintro t27 _ h H ⟨I, _, ⟨rfl, rfl⟩, hk⟩
  replace hs := bk hk ct0 rfl
  cases t27
  ·rw [cond_false] at H
   obtain ⟨hk, bk⟩ := hs.call tk0 (.c (gK d2) .n)
   refine st 11 [true] (k_call H (fun _ m => shutterlaw18_awake.calls m hk) ?_)
   rintro t99 _ h H ⟨I, _, ⟨rfl, rfl⟩, hk⟩
   replace hs := bk hk ct0 rfl
   refine st 2 [] ?_
   refine k_retQ ?_
   obtain rfl := Option.some.inj H
   exact ⟨_, by kernel_rfl, I, _, ⟨rfl, rfl⟩, hs.pk .n⟩
  ·rw [cond_true] at H
   refine st 4 [] (k_call H (fun _ m => shutterref05_Aid.calls m) ?_)
   rintro t28 _ _ H ⟨rfl, rfl⟩
   cases t28
   ·rw [cond_false] at H
    obtain ⟨hk, bk⟩ := hs.call tk0 (.c (gK d2) .n)
    refine st 6 [true] (k_call H (fun _ m => shutterlaw18_awake.calls m hk) ?_)
    rintro t98 _ h H ⟨I, _, ⟨rfl, rfl⟩, hk⟩
    replace hs := bk hk ct0 rfl
    refine st 2 [] ?_
    refine k_retQ ?_
    obtain rfl := Option.some.inj H
    exact ⟨_, by kernel_rfl, I, _, ⟨rfl, rfl⟩, hs.pk .n⟩
   ·rw [cond_true] at H
    refine st 7 [false] (k_op (lN (hs.bl d0) 0 6 ?_))
    obtain ⟨hk, bk⟩ := hs.call tk0 (.c (qB d1) .n)
    refine st 1 [] (k_call H (fun _ m => read_Modified.calls m hk) ?_)
    rintro t29 _ h H ⟨I, _, ⟨a30, p31, n32, v34, rfl, rfl⟩, hk⟩
    replace hs := bk hk ct2 rfl
    obtain rfl := hs.nO d0
    refine st 3 [] (k_op (nA hs [.int .u8 0, .int .i64 0, .slice none 0 0] (.agg #[.int .u8 0, .int .i64 0, .slice none 0 0]) ?_))
    intro b36 h hs
    refine k_op (sN hs 0 [.int .u8 t29.1.Aid, .int .i64 t29.1.Cursor, .slice a30 t29.1.Fields.length p31] [.int .u8 t29.1.Aid, .int .i64 t29.1.Cursor, .slice a30 t29.1.Fields.length p31] (ones_of rfl) ?_)
    intro h hs
    refine st 4 [] (k_op (lN (hs.bl d3) 0 6 ?_))
    obtain ⟨hk, bk⟩ := hs.call tk0 (.c (qB d4) .n)
    refine st 1 [] (k_call H (fun _ m => read_Reply.calls m hk) ?_)
    rintro t37 _ h H ⟨I, _, ⟨a38, p39, n40, v42, rfl, rfl⟩, hk⟩
    replace hs := bk hk ct2 rfl
    obtain rfl := hs.nO d0
    refine st 10 [] (k_op (lB (hs.bl d5) 2 rfl ?_))
    obtain ⟨hk, bk⟩ := hs.call tk0 (.c (qO d0) (.c (gK d7) .n))
    refine st 1 [] (k_call H (fun _ m => input_Read.calls m hk) ?_)
    rintro t44 _ h H ⟨I, _, ⟨a45, p46, n47, v49, rfl, rfl⟩, hk⟩
    replace hs := bk hk ct2 rfl
    obtain rfl := hs.nO d0
    refine st 3 [] (k_op (nA hs [.int .u8 0, .int .i64 0, .slice none 0 0] (.agg #[.int .u8 0, .int .i64 0, .slice none 0 0]) ?_))
    intro b51 h hs
    refine k_op (sN hs 0 [.int .u8 t44.1.Aid, .int .i64 t44.1.Cursor, .slice a45 t44.1.Fields.length p46] [.int .u8 t44.1.Aid, .int .i64 t44.1.Cursor, .slice a45 t44.1.Fields.length p46] (ones_of rfl) ?_)
    intro h hs
    rcases (hs.er d7).cases with ⟨c52, rfl⟩ | ⟨c52, t53, u54, rfl⟩
    ·rw [if_pos c52] at H
     rcases (hs.er d4).cases with ⟨c55, rfl⟩ | ⟨c55, t56, u57, rfl⟩
     ·rw [if_pos c55] at H
      rcases (hs.er d2).cases with ⟨c58, rfl⟩ | ⟨c58, t59, u60, rfl⟩
      ·rw [if_pos c58] at H
       refine st 16 [] (k_op (lN (hs.bl d0) 0 3 ?_))
       refine k_op (lN (hs.bl d5) 0 3 ?_)
       obtain ⟨hk, bk⟩ := hs.call tk0 (.c (qO d1) (.c (qO d6) .n))
       refine k_call H (fun _ m => input_Same.calls m hk) ?_
       rintro t61 _ h H ⟨I, _, ⟨rfl, rfl⟩, hk⟩
       replace hs := bk hk ct0 rfl
       cases t61
       ·rw [cond_false] at H
        refine st 16 [true] ?_
        refine k_retQ ?_
        obtain rfl := Option.some.inj H
        exact ⟨_, by kernel_rfl, I, _, ⟨rfl, rfl⟩, hs.pk .n⟩
       ·rw [cond_true] at H
        refine st 3 [] (k_op (lN (hs.bl d5) 0 3 ?_))
        refine st 1 [] (k_op (lB (hs.bl d8) 2 rfl ?_))
        obtain ⟨hk, bk⟩ := hs.call tk0 (.c (qO d6) .n)
        refine st 1 [] (k_call H (fun _ m => input_Right.calls m hk) ?_)
        rintro t62 v63 h H ⟨I, _, ⟨_, rfl, rfl⟩, hk⟩
        replace hs := bk hk ct1 rfl
        rcases (hs.er d0).cases with ⟨c65, rfl⟩ | ⟨c65, t66, u67, rfl⟩
        ·rw [if_pos c65] at H
         refine st 19 [false] ?_
         obtain ⟨s71, m75, HR74⟩ := bind_some H
         refine k_loop 0 (fun k' ρ h => ∃ (x68 : Int) (x69 : Bool) (x70 : Int) (I : Gh), shutterlaw18_ReadTells.l1.m K x0 k' x68 x69 x70 = some s71 ∧ Fits [(1, .int .u8 x1), (2, .pointer (some ⟨b25, 0, none⟩)), (5, .pointer (some ⟨b36, 0, none⟩)), (11, .int .i64 x68), (12, .bool x69), (13, .int .i64 x70)] ρ ∧ St E [rR t_api_Cell .b a21 p22 x0.Cells.length x0.Cells, rB b25 [.int .i64 x0.Rows, .int .i64 x0.Cols, .slice a21 x0.Cells.length p22, .int .i64 x0.Cursor, .bool x0.Locked, .bool x0.Insert] 24, rO t_api_Entry .i a30 p31 t29.1.Fields.length t29.1.Fields, rB b36 [.int .u8 t29.1.Aid, .int .i64 t29.1.Cursor, .slice a30 t29.1.Fields.length p31] 46, rG] I h) (fun ρ h => ∃ (x72 : Int) (x73 : Bool) (I : Gh), (x72, x73) = s71 ∧ Fits [(1, .int .u8 x1), (5, .pointer (some ⟨b36, 0, none⟩)), (11, .int .i64 x72), (12, .bool x73)] ρ ∧ St E [rO t_api_Entry .i a30 p31 t29.1.Fields.length t29.1.Fields, rB b36 [.int .u8 t29.1.Aid, .int .i64 t29.1.Cursor, .slice a30 t29.1.Fields.length p31] 46, rG] I h) K ⟨0, false, 0, I, m75, ⟨by kernel_rfl, by kernel_rfl, by kernel_rfl, by kernel_rfl, by kernel_rfl, by kernel_rfl, trivial⟩, hs.pk (.c d10 (.c d9 (.c d7 (.c d6 (.c d7 .n)))))⟩ ?_ rfl ?_
         ·clear HR74 m75 H
          rintro k' ρ h ⟨x68, x69, x70, I, H, hf, hs⟩
          cases k' with
          | zero => cases H
          | succ k =>
           rw [shutterlaw18_ReadTells.l1.m] at H
           refine k_fits _ hf ?_ rfl
           refine st 5 [] (k_op (lB (hs.bl d1) 2 rfl ?_))
           refine st 1 [] (k_ite H (fun c76 H => ?_) (fun c76 H => ?_))
           ·refine st 6 [true] ?_
            obtain ⟨j84, e91, H⟩ := letJ_some H
            refine k_join (fun ρ h => ∃ (x83 : Bool) (I : Gh), j84 x83 = some s71 ∧ Fits [(1, .int .u8 x1), (2, .pointer (some ⟨b25, 0, none⟩)), (5, .pointer (some ⟨b36, 0, none⟩)), (11, .int .i64 x68), (12, .bool x83), (13, .int .i64 x70)] ρ ∧ St E [rR t_api_Cell .b a21 p22 x0.Cells.length x0.Cells, rB b25 [.int .i64 x0.Rows, .int .i64 x0.Cols, .slice a21 x0.Cells.length p22, .int .i64 x0.Cursor, .bool x0.Locked, .bool x0.Insert] 24, rO t_api_Entry .i a30 p31 t29.1.Fields.length t29.1.Fields, rB b36 [.int .u8 t29.1.Aid, .int .i64 t29.1.Cursor, .slice a30 t29.1.Fields.length p31] 46, rG] I h) ?_ ?_
            ·refine st 1 [] (k_if H (fun c77 H => ?_) (fun c77 H => ?_))
             ·refine st 10 [] ?_
              exact k_end ⟨true, I, H, ⟨by kernel_rfl, by kernel_rfl, by kernel_rfl, by kernel_rfl, by kernel_rfl, by kernel_rfl, trivial⟩, hs.pk (.c d0 (.c d0 (.c d0 (.c d0 (.c d0 .n)))))⟩
             ·refine st 2 [] (k_op (lB (hs.bl d1) 2 rfl ?_))
              obtain ⟨c78, H⟩ := guard_pos H
              refine st 1 [] (k_val (elemPtr a21 (x70.toNat * 6)) (pI (e := 57) (ik := .i64) (hs.sR d0) c78 c76) ?_)
              refine k_val (elemPtr a21 (x70.toNat * 6 + 0)) (pF (off := 0) (hs.sR d0) c78 c76) ?_
              obtain ⟨y80, g79, q81⟩ := (hs.sR d0).toSl.seg c78 c76
              obtain rfl := t_api_Cell.open_ q81
              refine k_op (lC (seg_cell (f := 0) g79 rfl) ?_)
              refine k_spl H (fun c82 H => ?_) (fun c82 H => ?_)
              ·refine st 3 [] ?_
               exact k_end ⟨true, I, H, ⟨by kernel_rfl, by kernel_rfl, by kernel_rfl, by kernel_rfl, by kernel_rfl, by kernel_rfl, trivial⟩, hs.pk (.c d0 (.c d0 (.c d0 (.c d0 (.c d0 .n)))))⟩
              ·refine st 3 [] ?_
               exact k_end ⟨false, I, H, ⟨by kernel_rfl, by kernel_rfl, by kernel_rfl, by kernel_rfl, by kernel_rfl, by kernel_rfl, trivial⟩, hs.pk (.c d0 (.c d0 (.c d0 (.c d0 (.c d0 .n)))))⟩
            ·clear H
             rintro ρ h ⟨x83, I, H, hf, hs⟩
             refine k_fits _ hf ?_ rfl
             subst e91
             try dsimp only at H
             refine st 3 [] (k_op (lB (hs.bl d1) 2 rfl ?_))
             obtain ⟨c85, H⟩ := guard_pos H
             refine st 1 [] (k_val (elemPtr a21 (x70.toNat * 6)) (pI (e := 57) (ik := .i64) (hs.sR d0) c85 c76) ?_)
             refine k_val (elemPtr a21 (x70.toNat * 6 + 0)) (pF (off := 0) (hs.sR d0) c85 c76) ?_
             obtain ⟨y87, g86, q88⟩ := (hs.sR d0).toSl.seg c85 c76
             obtain rfl := t_api_Cell.open_ q88
             refine k_op (lC (seg_cell (f := 0) g86 rfl) ?_)
             refine k_spl H (fun c89 H => ?_) (fun c89 H => ?_)
             ·refine st 2 [] (k_op (lB (hs.bl d1) 2 rfl ?_))
              refine st 1 [] (k_val (elemPtr a21 (x70.toNat * 6)) (pI (e := 57) (ik := .i64) (hs.sR d0) c85 c76) ?_)
              refine k_val (elemPtr a21 (x70.toNat * 6 + 1)) (pF (off := 1) (hs.sR d0) c85 c76) ?_
              refine k_val (elemPtr a21 (x70.toNat * 6 + 1 + 3)) (pF (off := 3) (hs.sR d0) c85 c76) ?_
              refine k_op (lC (seg_cell (f := 4) g86 rfl) ?_)
              refine k_spl H (fun c90 H => ?_) (fun c90 H => ?_)
              ·refine st 14 [true] ?_
               exact k_endL ⟨k, Nat.lt_succ_self _, (w64 (x68 + 1)), x83, (w64 (x70 + 1)), I, H, ⟨by kernel_rfl, by kernel_rfl, by kernel_rfl, by kernel_rfl, by kernel_rfl, by kernel_rfl, trivial⟩, hs.pk (.c d0 (.c d0 (.c d0 (.c d0 (.c d0 .n)))))⟩
              ·refine st 10 [false] ?_
               exact k_endL ⟨k, Nat.lt_succ_self _, x68, x83, (w64 (x70 + 1)), I, H, ⟨by kernel_rfl, by kernel_rfl, by kernel_rfl, by kernel_rfl, by kernel_rfl, by kernel_rfl, trivial⟩, hs.pk (.c d0 (.c d0 (.c d0 (.c d0 (.c d0 .n)))))⟩
             ·refine st 18 [false] ?_
              exact k_endL ⟨k, Nat.lt_succ_self _, x68, x83, (w64 (x70 + 1)), I, H, ⟨by kernel_rfl, by kernel_rfl, by kernel_rfl, by kernel_rfl, by kernel_rfl, by kernel_rfl, trivial⟩, hs.pk (.c d0 (.c d0 (.c d0 (.c d0 (.c d0 .n)))))⟩
           ·refine st 2 [false] ?_
            refine k_out rfl ?_
            obtain rfl := Option.some.inj H
            exact xE ⟨x68, x69, I, rfl, ⟨by kernel_rfl, by kernel_rfl, by kernel_rfl, by kernel_rfl, trivial⟩, hs.pk (.c d2 (.c d2 (.c d2 .n)))⟩
         ·rintro ρ h ⟨x72, x73, I, rfl, hf, hs⟩
          have H := HR74
          try dsimp only at H
          refine k_fits _ hf ?_ rfl
          refine st 3 [] (k_call H (fun _ m => shutterref05_Bare.calls m) ?_)
          rintro t92 _ _ H ⟨rfl, rfl⟩
          cases t92
          ·rw [cond_false] at H
           refine st 8 [] (k_call H (fun _ m => shutterref05_Bare.calls m) ?_)
           rintro t96 _ _ H ⟨rfl, rfl⟩
           cases t96
           ·rw [cond_false] at H
            refine st 2 [] (k_if H (fun c97 H => ?_) (fun c97 H => ?_))
            ·refine st 3 [] (k_op (lB (hs.bl d1) 2 rfl ?_))
             refine st 8 [] ?_
             refine k_retQ ?_
             obtain rfl := Option.some.inj H
             exact ⟨_, by kernel_rfl, I, _, ⟨rfl, rfl⟩, hs.pk .n⟩
            ·refine st 12 [] ?_
             refine k_retQ ?_
             obtain rfl := Option.some.inj H
             exact ⟨_, by kernel_rfl, I, _, ⟨rfl, rfl⟩, hs.pk .n⟩
           ·rw [cond_true] at H
            refine st 15 [] ?_
            refine k_retQ ?_
            obtain rfl := Option.some.inj H
            exact ⟨_, by kernel_rfl, I, _, ⟨rfl, rfl⟩, hs.pk .n⟩
          ·rw [cond_true] at H
           refine st 2 [] (k_op (lB (hs.bl d1) 2 rfl ?_))
           refine st 1 [] (k_ite H (fun c93 H => ?_) (fun c93 H => ?_))
           ·refine st 19 [] ?_
            refine k_retQ ?_
            obtain rfl := Option.some.inj H
            exact ⟨_, by kernel_rfl, I, _, ⟨rfl, rfl⟩, hs.pk .n⟩
           ·refine st 3 [] (k_call H (fun _ m => shutterref05_Bare.calls m) ?_)
            rintro t94 _ _ H ⟨rfl, rfl⟩
            cases t94
            ·rw [cond_false] at H
             refine st 2 [] (k_if H (fun c95 H => ?_) (fun c95 H => ?_))
             ·refine st 3 [] (k_op (lB (hs.bl d1) 2 rfl ?_))
              refine st 8 [] ?_
              refine k_retQ ?_
              obtain rfl := Option.some.inj H
              exact ⟨_, by kernel_rfl, I, _, ⟨rfl, rfl⟩, hs.pk .n⟩
             ·refine st 12 [] ?_
              refine k_retQ ?_
              obtain rfl := Option.some.inj H
              exact ⟨_, by kernel_rfl, I, _, ⟨rfl, rfl⟩, hs.pk .n⟩
            ·rw [cond_true] at H
             refine st 15 [] ?_
             refine k_retQ ?_
             obtain rfl := Option.some.inj H
             exact ⟨_, by kernel_rfl, I, _, ⟨rfl, rfl⟩, hs.pk .n⟩
        ·rw [if_neg c65] at H
         refine st 8 [true] ?_
         refine k_retQ ?_
         obtain rfl := Option.some.inj H
         exact ⟨_, by kernel_rfl, I, _, ⟨rfl, rfl⟩, hs.pk .n⟩
      ·rw [if_neg c58] at H
       refine st 35 [true] ?_
       refine k_retQ ?_
       obtain rfl := Option.some.inj H
       exact ⟨_, by kernel_rfl, I, _, ⟨rfl, rfl⟩, hs.pk .n⟩
     ·rw [if_neg c55] at H
      refine st 35 [true] ?_
      refine k_retQ ?_
      obtain rfl := Option.some.inj H
      exact ⟨_, by kernel_rfl, I, _, ⟨rfl, rfl⟩, hs.pk .n⟩
    ·rw [if_neg c52] at H
     refine st 35 [true] ?_
     refine k_retQ ?_
     obtain rfl := Option.some.inj H
     exact ⟨_, by kernel_rfl, I, _, ⟨rfl, rfl⟩, hs.pk .n⟩

/-! shutter/attr.GetWcc -/
def attr_GetWcc.m (x0 : Int) : Option (api_Wcc × GoErr) :=
  ((six_Get.m x0).bind fun t22 => (if t22.2 = GoErr.nil then (if t22.1 > 7 then (some ((⟨false, false, false⟩ : api_Wcc), (GoErr.no 3))) else (some ((⟨((bAnd .i64 t22.1 4) != 0), ((bAnd .i64 t22.1 2) != 0), ((bAnd .i64 t22.1 1) != 0)⟩ : api_Wcc), GoErr.nil))) else (some ((⟨false, false, false⟩ : api_Wcc), (GoErr.no 3)))))

theorem attr_GetWcc.calls {B I : Gh} {h : Heap} {x0 : Int} {r : (api_Wcc × GoErr)} (H : attr_GetWcc.m x0 = some r)  :
    Fc Tryz.prog 64 #[.int .u8 x0] [] B I h (fun v L => ∃ (v29 : Value), v = .tuple #[.agg #[.bool r.1.Alarm, .bool r.1.Unlock, .bool r.1.Reset], v29] ∧ L = [rE .i v29 r.2]) := by
 refine fc_of fun E hs => ?_
 unfold attr_GetWcc.m at H
 refine fn_of2 (args := [.int .u8 x0]) (rs := [.cell 2 37, .tmp 3]) (N := 29) Tryz.func64 rfl rfl rfl rfl ?_
 refine st 2 [] (k_op (nA hs [.bool false, .bool false, .bool false] (.agg #[.bool false, .bool false, .bool false]) ?_))
 intro b21 h hs
 obtain ⟨hk, bk⟩ := hs.call tk0 .n
 refine st 5 [] (k_call H (fun _ m => six_Get.calls m hk) ?_)
 rintro t22 _ h H ⟨I, _, ⟨v23, rfl, rfl⟩, hk⟩
 replace hs := bk hk ct1 rfl
 rcases (hs.er d0).cases with ⟨c25, rfl⟩ | ⟨c25, t26, u27, rfl⟩
 ·rw [if_pos c25] at H
  refine st 13 [] (k_ite H (fun c28 H => ?_) (fun c28 H => ?_))
  ·refine st 7 [true] (k_op (sN (hs.f d1) 0 [.bool false, .bool false, .bool false] [.bool false, .bool false, .bool false] (ones_of rfl) ?_))
   intro h hs
   refine st 2 [] ?_
   refine k_retQ ?_
   obtain rfl := Option.some.inj H
   exact ⟨[.agg #[.bool false, .bool false, .bool false], .iface 71 (.int .i64 3)], (.cons (.agg (by kernel_rfl) (by kernel_rfl) (by kernel_rfl) ((hs.bl d0).seg_ 0 3 (Nat.le_of_ble_eq_true rfl))) (.cons (.tmp (by kernel_rfl)) .nil)), I, _, ⟨(.iface 71 (.int .i64 3)), rfl, rfl⟩, hs.pk (.f imEC .n)⟩
  ·refine st 16 [false] (k_op (sN (hs.f d1) 0 [.bool ((bAnd .i64 t22.1 4) != 0), .bool ((bAnd .i64 t22.1 2) != 0), .bool ((bAnd .i64 t22.1 1) != 0)] [.bool ((bAnd .i64 t22.1 4) != 0), .bool ((bAnd .i64 t22.1 2) != 0), .bool ((bAnd .i64 t22.1 1) != 0)] (ones_of rfl) ?_))
   intro h hs
   refine st 2 [] ?_
   refine k_retQ ?_
   obtain rfl := Option.some.inj H
   exact ⟨[.agg #[.bool ((bAnd .i64 t22.1 4) != 0), .bool ((bAnd .i64 t22.1 2) != 0), .bool ((bAnd .i64 t22.1 1) != 0)], .nilIface], (.cons (.agg (by kernel_rfl) (by kernel_rfl) (by kernel_rfl) ((hs.bl d0).seg_ 0 3 (Nat.le_of_ble_eq_true rfl))) (.cons (.tmp (by kernel_rfl)) .nil)), I, _, ⟨(.nilIface), rfl, rfl⟩, hs.pk (.f imEN .n)⟩
 ·rw [if_neg c25] at H
  refine st 21 [true] (k_op (sN (hs.f d1) 0 [.bool false, .bool false, .bool false] [.bool false, .bool false, .bool false] (ones_of rfl) ?_))
  intro h hs
  refine st 2 [] ?_
  refine k_retQ ?_
  obtain rfl := Option.some.inj H
  exact ⟨[.agg #[.bool false, .bool false, .bool false], .iface 71 (.int .i64 3)], (.cons (.agg (by kernel_rfl) (by kernel_rfl) (by kernel_rfl) ((hs.bl d0).seg_ 0 3 (Nat.le_of_ble_eq_true rfl))) (.cons (.tmp (by kernel_rfl)) .nil)), I, _, ⟨(.iface 71 (.int .i64 3)), rfl, rfl⟩, hs.pk (.f imEC .n)⟩

/-! (*shutter/bytes.Cursor).Chars$1 -/
def bytes_Cursor_Chars_1.m (x0 : Int) : Option Bool :=
  ((attr_Char.m x0).bind fun t21 => (some (!t21)))

theorem bytes_Cursor_Chars_1.calls {x0 : Int} {h : Heap} {r : Bool} (H : bytes_Cursor_Chars_1.m x0 = some r)   :
    Ret Tryz.prog 129 #[.int .u8 x0] h (fun v h' => .bool r = v ∧ h' = h) := by
 unfold bytes_Cursor_Chars_1.m at H
 refine fn_of (args := [.int .u8 x0]) (rs := [.tmp 2]) (N := 6) Tryz.func129 rfl rfl rfl rfl ?_
 refine st 7 [] (k_call H (fun _ m => attr_Char.calls m) ?_)
 rintro t21 _ _ H ⟨rfl, rfl⟩
 refine st 3 [] ?_
 refine k_retQ ?_
 obtain rfl := Option.some.inj H
 exact ⟨_, by kernel_rfl, rfl, rfl⟩

/-! slices.IndexFunc[[]byte,byte] -/
def slices_IndexFunc_bytes__bytes_Cursor_Chars_1.l1.m (K : Nat) (x0 : (List Int)) : Nat → Int → Option (Int ⊕ (Unit))
  | 0, _ => none
  | k + 1, x26 => (letJ (α := Bool → Option (Int ⊕ (Unit))) (fun (x31 : Bool) => (bif x31 then (if 0 ≤ x26 then (if x26 < (x0.length : Int) then ((bytes_Cursor_Chars_1.m (at_ x0 x26)).bind fun t35 => bif t35 then (some (Sum.inl x26)) else (slices_IndexFunc_bytes__bytes_Cursor_Chars_1.l1.m K x0 k (w64 (x26 + 1)))) else none) else none) else (some (Sum.inr ())))) fun (j32 : Bool → Option (Int ⊕ (Unit))) => (if x26 < (x0.length : Int) then (j32 true) else (j32 false)))
def slices_IndexFunc_bytes__bytes_Cursor_Chars_1.m (K : Nat) (x0 : (List Int)) : Option Int :=
  ((slices_IndexFunc_bytes__bytes_Cursor_Chars_1.l1.m K x0 K 0).bind fun s27 => match s27 with | .inl q => (some q) | .inr _ => (some (-1)))

theorem slices_IndexFunc_bytes__bytes_Cursor_Chars_1.calls {G : Gh} {K : Nat} {x0 : (List Int)} {a21 : Option Addr} {p22 : Nat} {n23 : Nat} {h : Heap} {r : Int} (H : slices_IndexFunc_bytes__bytes_Cursor_Chars_1.m K x0 = some r)  (s25 : Sn (tInt .u8) G h a21 p22 n23 x0) :
    Ret Tryz.prog 126 #[.slice a21 n23 p22, .func (.func 129) #[] #[]] h (fun v h' => .int .i64 r = v ∧ h' = h) := by
 unfold slices_IndexFunc_bytes__bytes_Cursor_Chars_1.m at H
 obtain rfl := s25.len.symm
 refine fn_of (args := [.slice a21 x0.length p22, .func (.func 129) #[] #[]]) (rs := [.tmp 4]) (N := 19) Tryz.func126 rfl rfl rfl rfl ?_
 refine st 12 [] ?_
 obtain ⟨s27, m29, HR28⟩ := bind_some H
 refine k_loop 0 (fun k' ρ h1 => ∃ (x26 : Int), slices_IndexFunc_bytes__bytes_Cursor_Chars_1.l1.m K x0 k' x26 = some s27 ∧ Fits [(0, .slice a21 x0.length p22), (1, .func (.func 129) #[] #[]), (7, .int .i64 (x0.length : Int)), (8, .int .i64 x26)] ρ ∧ h = h1) (fun ρ h1 => Sum.inr () = s27 ∧ Fits [] ρ ∧ h = h1) K ⟨0, m29, ⟨by kernel_rfl, by kernel_rfl, by kernel_rfl, by kernel_rfl, trivial⟩, rfl⟩ ?_ rfl ?_
 ·clear m29 H
  rintro k' ρ h1 ⟨x26, H, hf, rfl⟩
  cases k' with
  | zero => cases H
  | succ k =>
   rw [slices_IndexFunc_bytes__bytes_Cursor_Chars_1.l1.m] at H
   refine k_fits _ hf ?_ rfl
   refine st 1 [] ?_
   obtain ⟨j32, e36, H⟩ := letJ_some H
   refine k_join (fun ρ h1 => ∃ (x31 : Bool), j32 x31 = some s27 ∧ Fits [(0, .slice a21 x0.length p22), (1, .func (.func 129) #[] #[]), (7, .int .i64 (x0.length : Int)), (8, .int .i64 x26), (9, .bool x31)] ρ ∧ h = h1) ?_ ?_
   ·refine st 1 [] (k_ite H (fun c30 H => ?_) (fun c30 H => ?_))
    ·refine st 1 [] ?_
     exact k_end ⟨true, H, ⟨by kernel_rfl, by kernel_rfl, by kernel_rfl, by kernel_rfl, by kernel_rfl, trivial⟩, rfl⟩
    ·refine st 1 [] ?_
     exact k_end ⟨false, H, ⟨by kernel_rfl, by kernel_rfl, by kernel_rfl, by kernel_rfl, by kernel_rfl, trivial⟩, rfl⟩
   ·clear H
    rintro ρ h1 ⟨x31, H, hf, rfl⟩
    refine k_fits _ hf ?_ rfl
    subst e36
    try dsimp only at H
    cases x31
    ·rw [cond_false] at H
     refine st 2 [false] ?_
     refine k_out rfl ?_
     obtain rfl := Option.some.inj H
     exact xE ⟨rfl, trivial, rfl⟩
    ·rw [cond_true] at H
     obtain ⟨c33, H⟩ := guard_pos H
     obtain ⟨c34, H⟩ := guard_pos H
     refine st 15 [true] (k_val (elemPtr a21 (x26.toNat * 1)) (pI (e := 5) (ik := .i64) s25 c33 c34) ?_)
     refine k_op (lC (s25.cell1 c33 c34) ?_)
     refine k_call H (fun _ m => bytes_Cursor_Chars_1.calls m) ?_
     rintro t35 _ _ H ⟨rfl, rfl⟩
     cases t35
     ·rw [cond_false] at H
      refine st 8 [false] ?_
      exact k_endL ⟨k, Nat.lt_succ_self _, (w64 (x26 + 1)), H, ⟨by kernel_rfl, by kernel_rfl, by kernel_rfl, by kernel_rfl, trivial⟩, rfl⟩
     ·rw [cond_true] at H
      refine st 7 [true] ?_
      refine k_retQ (krL ?_)
      obtain rfl := Option.some.inj H
      obtain rfl := Option.some.inj HR28
      exact ⟨_, by kernel_rfl, rfl, rfl⟩
 ·rintro ρ h1 ⟨rfl, hf, rfl⟩
  have H := HR28
  try dsimp only at H
  refine k_fits _ hf ?_ rfl
  refine st 4 [] ?_
  refine k_retQ ?_
  obtain rfl := Option.some.inj H
  exact ⟨_, by kernel_rfl, rfl, rfl⟩

/-! (*shutter/bytes.Cursor).Chars -/
def bytes_Cursor_Chars.m (K : Nat) (x0 : bytes_Cursor) : Option ((List Int) × bytes_Cursor) :=
  (if x0.err' = GoErr.nil then (if 0 ≤ x0.at' then (if x0.at' ≤ (x0.b'.length : Int) then ((slices_IndexFunc_bytes__bytes_Cursor_Chars_1.m K (sub x0.b' x0.at' (x0.b'.length : Int))).bind fun t32 => (if t32 < 0 then ((bytes_Cursor_Left.m x0).bind fun t34 => ((bytes_Cursor_Take.m (⟨t34.2.b', t34.2.at', x0.err'⟩ : bytes_Cursor) t34.1).bind fun t39 => (some (t39.1, t39.2)))) else ((bytes_Cursor_Take.m x0 t32).bind fun t50 => (some (t50.1, t50.2))))) else none) else none) else (some ([], x0)))

theorem bytes_Cursor_Chars.calls {B I : Gh} {h : Heap} {K : Nat} {x0 : bytes_Cursor} {b0 : Nat} {a21 : Option Addr} {p22 : Nat} {n23 : Nat} {v25 : Value} {r : ((List Int) × bytes_Cursor)} (H : bytes_Cursor_Chars.m K x0 = some r)  :
    Fc Tryz.prog 98 #[.pointer (some ⟨b0, 0, none⟩)] [rB b0 [.slice a21 n23 p22, .int .i64 x0.at', v25] 139, rR (tInt .u8) .i a21 p22 n23 x0.b', rE .i v25 x0.err'] B I h (fun v L => ∃ (a61 : Option Addr) (p62 : Nat) (n63 : Nat) (a65 : Option Addr) (p66 : Nat) (n67 : Nat) (v69 : Value), v = .slice a61 n63 p62 ∧ L = [rO (tInt .u8) .i a61 p62 n63 r.1, rB b0 [.slice a65 n67 p66, .int .i64 r.2.at', v69] 139, rR (tInt .u8) .i a65 p66 n67 r.2.b', rE .i v69 r.2.err']) := by
 refine fc_of fun E hs => ?_
 unfold bytes_Cursor_Chars.m at H
 obtain rfl := hs.nR d1
 refine fn_of (args := [.pointer (some ⟨b0, 0, none⟩)]) (rs := [.tmp 2]) (N := 26) Tryz.func98 rfl rfl rfl rfl ?_
 refine st 10 [] (k_op (lB (hs.bl d0) 2 rfl ?_))
 rcases (hs.er d2).cases with ⟨c27, rfl⟩ | ⟨c27, t28, u29, rfl⟩
 ·rw [if_pos c27] at H
  refine st 5 [false] ?_
  obtain ⟨hs0, bk0⟩ := hs.call tk0 (.c (qL d0) (.c (qK d1) .n))
  have hs := hs0
  refine k_regD hs0 11 ?_
  refine aRun [0, 1, 2] 8 hs.keep ?_
  refine aL 3 rfl hs.keep (ll hs0 d0 (n := 0) rfl) (nmL hs0 d0) ?_
  refine aRun [4, 5, 6] 4 hs.keep ?_
  refine aL 7 rfl hs.keep (ll hs0 d0 (n := 1) rfl) (nmL hs0 d0) ?_
  obtain ⟨c30, H⟩ := guard_pos H
  obtain ⟨c31, H⟩ := guard_pos H
  refine aP 8 (.slice (slA a21 p22 (Int.toNat x0.at') 1) ((sub x0.b' x0.at' (x0.b'.length : Int)).length) (p22 - Int.toNat x0.at')) rfl (pSl (e := 5) (k1 := .i64) (hs.sR d1) c30 c31 (Int.le_refl _)) hs.keep ?_
  refine aO1 9 rfl (o_call H (fun _ m => slices_IndexFunc_bytes__bytes_Cursor_Chars_1.calls m (Sn.part (hs.sR d1) (lo := x0.at') (hi := (x0.b'.length : Int)) c30 c31 (Int.le_refl _))) ?_)
  rintro t32 _ _ H ⟨rfl, rfl⟩
  refine ⟨hs.keep, ?_⟩
  refine aRun [10] 0 hs.keep ?_
  replace hs := hs.pk .n
  replace hs := bk0 hs ct0 rfl
  refine aEnd ?_
  refine st 4 [] (k_ite H (fun c33 H => ?_) (fun c33 H => ?_))
  ·obtain ⟨hk, bk⟩ := hs.call tk1 (.c (qK d0) .n)
   refine st 4 [true] (k_call H (fun _ m => bytes_Cursor_Left.calls m hk) ?_)
   rintro t34 _ h H ⟨I, _, ⟨a35, p36, n37, rfl, rfl⟩, hk⟩
   replace hs := bk hk ct2 rfl
   obtain rfl := hs.nR d1
   obtain ⟨hk, bk⟩ := hs.call tk1 (.c (qK d0) (.c (xK d2) .n))
   refine st 6 [] (k_call H (fun _ m => bytes_Cursor_Take.calls m hk) ?_)
   rintro t39 _ h H ⟨I, _, ⟨a40, p41, n42, a44, p45, n46, v48, rfl, rfl⟩, hk⟩
   replace hs := bk hk ct4 rfl
   obtain rfl := hs.nO d0
   obtain rfl := hs.nR d2
   refine st 2 [] ?_
   refine k_retQ ?_
   obtain rfl := Option.some.inj H
   exact ⟨_, by kernel_rfl, I, _, ⟨a40, p41, t39.1.length, a44, p45, t39.2.b'.length, (v48), rfl, rfl⟩, hs.pk (.c d0 (.c d0 (.c d0 (.c d0 .n))))⟩
  ·obtain ⟨hk, bk⟩ := hs.call tk1 (.c (qK d0) (.c (xK d1) .n))
   refine st 7 [false] (k_call H (fun _ m => bytes_Cursor_Take.calls m hk) ?_)
   rintro t50 _ h H ⟨I, _, ⟨a51, p52, n53, a55, p56, n57, v59, rfl, rfl⟩, hk⟩
   replace hs := bk hk ct4 rfl
   obtain rfl := hs.nO d0
   obtain rfl := hs.nR d2
   refine st 2 [] ?_
   refine k_retQ ?_
   obtain rfl := Option.some.inj H
   exact ⟨_, by kernel_rfl, I, _, ⟨a51, p52, t50.1.length, a55, p56, t50.2.b'.length, (v59), rfl, rfl⟩, hs.pk (.c d0 (.c d0 (.c d0 (.c d0 .n))))⟩
 ·rw [if_neg c27] at H
  refine st 7 [true] ?_
  refine k_retQ ?_
  obtain rfl := Option.some.inj H
  exact ⟨_, by kernel_rfl, I, _, ⟨none, 0, 0, a21, p22, x0.b'.length, ((.iface t28 u29)), rfl, rfl⟩, hs.pk (.f imON (.c d0 (.c d0 (.c d0 .n))))⟩

/-! shutter/order.kind -/
def order_kind.l1.m (K : Nat) (x0 : Int) : Nat → Int → Option (Int ⊕ (Unit))
  | 0, _ => none
  | k + 1, x21 => (if x21 ≤ 7 then ((order_byteOf.m x21).bind fun t26 => (if t26 = x0 then (some (Sum.inl x21)) else (order_kind.l1.m K x0 k (w64 (x21 + 1))))) else (some (Sum.inr ())))
def order_kind.m (K : Nat) (x0 : Int) : Option Int :=
  ((order_kind.l1.m K x0 K 2).bind fun s22 => match s22 with | .inl q => (some q) | .inr _ => (some 0))

theorem order_kind.calls {K : Nat} {x0 : Int} {h : Heap} {r : Int} (H : order_kind.m K x0 = some r)   :
    Ret Tryz.prog 99 #[.int .u8 x0] h (fun v h' => .int .i64 r = v ∧ h' = h) := by
 unfold order_kind.m at H
 refine fn_of (args := [.int .u8 x0]) (rs := [.tmp 2]) (N := 13) Tryz.func99 rfl rfl rfl rfl ?_
 refine st 10 [] ?_
 obtain ⟨s22, m24, HR23⟩ := bind_some H
 refine k_loop 0 (fun k' ρ h1 => ∃ (x21 : Int), order_kind.l1.m K x0 k' x21 = some s22 ∧ Fits [(0, .int .u8 x0), (3, .int .i64 x21)] ρ ∧ h = h1) (fun ρ h1 => Sum.inr () = s22 ∧ Fits [] ρ ∧ h = h1) K ⟨2, m24, ⟨by kernel_rfl, by kernel_rfl, trivial⟩, rfl⟩ ?_ rfl ?_
 ·clear m24 H
  rintro k' ρ h1 ⟨x21, H, hf, rfl⟩
  cases k' with
  | zero => cases H
  | succ k =>
   rw [order_kind.l1.m] at H
   refine k_fits _ hf ?_ rfl
   refine st 4 [] (k_ite H (fun c25 H => ?_) (fun c25 H => ?_))
   ·refine st 8 [true] (k_call H (fun _ m => order_byteOf.calls m) ?_)
    rintro t26 _ _ H ⟨rfl, rfl⟩
    refine st 1 [] (k_ite H (fun c27 H => ?_) (fun c27 H => ?_))
    ·refine st 7 [true] ?_
     refine k_retQ (krL ?_)
     obtain rfl := Option.some.inj H
     obtain rfl := Option.some.inj HR23
     exact ⟨_, by kernel_rfl, rfl, rfl⟩
    ·refine st 9 [false] ?_
     exact k_endL ⟨k, Nat.lt_succ_self _, (w64 (x21 + 1)), H, ⟨by kernel_rfl, by kernel_rfl, trivial⟩, rfl⟩
   ·refine st 2 [false] ?_
    refine k_out rfl ?_
    obtain rfl := Option.some.inj H
    exact xE ⟨rfl, trivial, rfl⟩
 ·rintro ρ h1 ⟨rfl, hf, rfl⟩
  have H := HR23
  try dsimp only at H
  refine k_fits _ hf ?_ rfl
  refine st 4 [] ?_
  refine k_retQ ?_
  obtain rfl := Option.some.inj H
  exact ⟨_, by kernel_rfl, rfl, rfl⟩

/-! shutter/attr.Get -/
def attr_Get.m (x0 : Int) : Option (api_Attr × GoErr) :=
  ((six_Get.m x0).bind fun t22 => (if t22.2 = GoErr.nil then (if (bAnd .i64 t22.1 2) = 0 then (some ((⟨((bAnd .i64 t22.1 32) != 0), ((bAnd .i64 t22.1 16) != 0), (bAnd .i64 (w64 (Int.tdiv t22.1 4)) 3), ((bAnd .i64 t22.1 1) != 0)⟩ : api_Attr), GoErr.nil)) else (some ((⟨false, false, 0, false⟩ : api_Attr), (GoErr.no 3)))) else (some ((⟨false, false, 0, false⟩ : api_Attr), (GoErr.no 3)))))

theorem attr_Get.calls {B I : Gh} {h : Heap} {x0 : Int} {r : (api_Attr × GoErr)} (H : attr_Get.m x0 = some r)  :
    Fc Tryz.prog 131 #[.int .u8 x0] [] B I h (fun v L => ∃ (v29 : Value), v = .tuple #[.agg #[.bool r.1.Protected, .bool r.1.Numeric, .int .i64 r.1.Show, .bool r.1.Modified], v29] ∧ L = [rE .i v29 r.2]) := by
 refine fc_of fun E hs => ?_
 unfold attr_Get.m at H
 refine fn_of2 (args := [.int .u8 x0]) (rs := [.cell 2 55, .tmp 3]) (N := 33) Tryz.func131 rfl rfl rfl rfl ?_
 refine st 2 [] (k_op (nA hs [.bool false, .bool false, .int .i64 0, .bool false] (.agg #[.bool false, .bool false, .int .i64 0, .bool false]) ?_))
 intro b21 h hs
 obtain ⟨hk, bk⟩ := hs.call tk0 .n
 refine st 5 [] (k_call H (fun _ m => six_Get.calls m hk) ?_)
 rintro t22 _ h H ⟨I, _, ⟨v23, rfl, rfl⟩, hk⟩
 replace hs := bk hk ct1 rfl
 rcases (hs.er d0).cases with ⟨c25, rfl⟩ | ⟨c25, t26, u27, rfl⟩
 ·rw [if_pos c25] at H
  refine st 14 [] (k_iteN H (fun c28 H => ?_) (fun c28 H => ?_))
  ·refine st 19 [false] (k_op (sN (hs.f d1) 0 [.bool ((bAnd .i64 t22.1 32) != 0), .bool ((bAnd .i64 t22.1 16) != 0), .int .i64 (bAnd .i64 (w64 (Int.tdiv t22.1 4)) 3), .bool ((bAnd .i64 t22.1 1) != 0)] [.bool ((bAnd .i64 t22.1 32) != 0), .bool ((bAnd .i64 t22.1 16) != 0), .int .i64 (bAnd .i64 (w64 (Int.tdiv t22.1 4)) 3), .bool ((bAnd .i64 t22.1 1) != 0)] (ones_of rfl) ?_))
   intro h hs
   refine st 2 [] ?_
   refine k_retQ ?_
   obtain rfl := Option.some.inj H
   exact ⟨[.agg #[.bool ((bAnd .i64 t22.1 32) != 0), .bool ((bAnd .i64 t22.1 16) != 0), .int .i64 (bAnd .i64 (w64 (Int.tdiv t22.1 4)) 3), .bool ((bAnd .i64 t22.1 1) != 0)], .nilIface], (.cons (.agg (by kernel_rfl) (by kernel_rfl) (by kernel_rfl) ((hs.bl d0).seg_ 0 4 (Nat.le_of_ble_eq_true rfl))) (.cons (.tmp (by kernel_rfl)) .nil)), I, _, ⟨(.nilIface), rfl, rfl⟩, hs.pk (.f imEN .n)⟩
  ·refine st 7 [true] (k_op (sN (hs.f d1) 0 [.bool false, .bool false, .int .i64 0, .bool false] [.bool false, .bool false, .int .i64 0, .bool false] (ones_of rfl) ?_))
   intro h hs
   refine st 2 [] ?_
   refine k_retQ ?_
   obtain rfl := Option.some.inj H
   exact ⟨[.agg #[.bool false, .bool false, .int .i64 0, .bool false], .iface 71 (.int .i64 3)], (.cons (.agg (by kernel_rfl) (by kernel_rfl) (by kernel_rfl) ((hs.bl d0).seg_ 0 4 (Nat.le_of_ble_eq_true rfl))) (.cons (.tmp (by kernel_rfl)) .nil)), I, _, ⟨(.iface 71 (.int .i64 3)), rfl, rfl⟩, hs.pk (.f imEC .n)⟩
 ·rw [if_neg c25] at H
  refine st 22 [true] (k_op (sN (hs.f d1) 0 [.bool false, .bool false, .int .i64 0, .bool false] [.bool false, .bool false, .int .i64 0, .bool false] (ones_of rfl) ?_))
  intro h hs
  refine st 2 [] ?_
  refine k_retQ ?_
  obtain rfl := Option.some.inj H
  exact ⟨[.agg #[.bool false, .bool false, .int .i64 0, .bool false], .iface 71 (.int .i64 3)], (.cons (.agg (by kernel_rfl) (by kernel_rfl) (by kernel_rfl) ((hs.bl d0).seg_ 0 4 (Nat.le_of_ble_eq_true rfl))) (.cons (.tmp (by kernel_rfl)) .nil)), I, _, ⟨(.iface 71 (.int .i64 3)), rfl, rfl⟩, hs.pk (.f imEC .n)⟩

/-! shutter/order.taken -/
def order_taken.m (x0 : bytes_Cursor) (x1 : GoErr) : Option bytes_Cursor :=
  ((bytes_Cursor_Left.m x0).bind fun t29 => (if t29.1 = 0 then ((bytes_Cursor_Fail.m (⟨t29.2.b', t29.2.at', x0.err'⟩ : bytes_Cursor) (GoErr.no 2)).bind fun t35 => ((bytes_Cursor_Byte.m (⟨t29.2.b', t35.at', t35.err'⟩ : bytes_Cursor)).bind fun t38 => (some t38.2))) else ((bytes_Cursor_Fail.m (⟨t29.2.b', t29.2.at', x0.err'⟩ : bytes_Cursor) x1).bind fun t45 => ((bytes_Cursor_Byte.m (⟨t29.2.b', t45.at', t45.err'⟩ : bytes_Cursor)).bind fun t48 => (some t48.2)))))

theorem order_taken.calls {B I : Gh} {h : Heap} {x0 : bytes_Cursor} {x1 : GoErr} {b0 : Nat} {a21 : Option Addr} {p22 : Nat} {n23 : Nat} {v25 : Value} {v27 : Value} {r : bytes_Cursor} (H : order_taken.m x0 x1 = some r)  :
    Fc Tryz.prog 132 #[.pointer (some ⟨b0, 0, none⟩), v27] [rB b0 [.slice a21 n23 p22, .int .i64 x0.at', v25] 139, rR (tInt .u8) .i a21 p22 n23 x0.b', rE .i v25 x0.err', rE .i v27 x1] B I h (fun v L => ∃ (a55 : Option Addr) (p56 : Nat) (n57 : Nat) (v59 : Value), v = .tuple #[] ∧ L = [rB b0 [.slice a55 n57 p56, .int .i64 r.at', v59] 139, rR (tInt .u8) .i a55 p56 n57 r.b', rE .i v59 r.err']) := by
 refine fc_of fun E hs => ?_
 unfold order_taken.m at H
 obtain rfl := hs.nR d1
 refine fn_of (args := [.pointer (some ⟨b0, 0, none⟩), v27]) (rs := []) (N := 13) Tryz.func132 rfl rfl rfl rfl ?_
 obtain ⟨hk, bk⟩ := hs.call tk1 (.c (qK d0) .n)
 refine st 4 [] (k_call H (fun _ m => bytes_Cursor_Left.calls m hk) ?_)
 rintro t29 _ h H ⟨I, _, ⟨a30, p31, n32, rfl, rfl⟩, hk⟩
 replace hs := bk hk ct2 rfl
 obtain rfl := hs.nR d1
 refine k_ite H (fun c34 H => ?_) (fun c34 H => ?_)
 ·obtain ⟨hk, bk⟩ := hs.call tk1 (.c (xK d2) (.c xC .n))
  refine st 10 [true] (k_call H (fun _ m => bytes_Cursor_Fail.calls m hk) ?_)
  rintro t35 _ h H ⟨I, _, ⟨v36, rfl, rfl⟩, hk⟩
  replace hs := bk hk ct2 rfl
  obtain ⟨hk, bk⟩ := hs.call tk1 (.c (qK d1) (.c (xK d0) .n))
  refine st 3 [] (k_call H (fun _ m => bytes_Cursor_Byte.calls m hk) ?_)
  rintro t38 _ h H ⟨I, _, ⟨a39, p40, n41, v43, rfl, rfl⟩, hk⟩
  replace hs := bk hk ct3 rfl
  obtain rfl := hs.nR d1
  refine st 1 [] ?_
  refine k_fin ?_
  obtain rfl := Option.some.inj H
  exact ⟨_, by kernel_rfl, I, _, ⟨a39, p40, t38.2.b'.length, (v43), rfl, rfl⟩, hs.pk (.c d0 (.c d0 (.c d0 .n)))⟩
 ·obtain ⟨hk, bk⟩ := hs.call tk1 (.c (xK d2) (.c (xK d3) .n))
  refine st 7 [false] (k_call H (fun _ m => bytes_Cursor_Fail.calls m hk) ?_)
  rintro t45 _ h H ⟨I, _, ⟨v46, rfl, rfl⟩, hk⟩
  replace hs := bk hk ct2 rfl
  obtain ⟨hk, bk⟩ := hs.call tk1 (.c (qK d1) (.c (xK d0) .n))
  refine st 3 [] (k_call H (fun _ m => bytes_Cursor_Byte.calls m hk) ?_)
  rintro t48 _ h H ⟨I, _, ⟨a49, p50, n51, v53, rfl, rfl⟩, hk⟩
  replace hs := bk hk ct3 rfl
  obtain rfl := hs.nR d1
  refine st 1 [] ?_
  refine k_fin ?_
  obtain rfl := Option.some.inj H
  exact ⟨_, by kernel_rfl, I, _, ⟨a49, p50, t48.2.b'.length, (v53), rfl, rfl⟩, hs.pk (.c d0 (.c d0 (.c d0 .n)))⟩

/-! shutter/order.start -/
def order_start.m (x0 : bytes_Cursor) : Option (api_Attr × bytes_Cursor) :=
  ((bytes_Cursor_Peek.m x0).bind fun t28 => ((attr_Get.m t28.1).bind fun t35 => ((order_taken.m t28.2.2 t35.2).bind fun t39 => (some (t35.1, t39)))))

theorem order_start.calls {B I : Gh} {h : Heap} {x0 : bytes_Cursor} {b0 : Nat} {a21 : Option Addr} {p22 : Nat} {n23 : Nat} {v25 : Value} {r : (api_Attr × bytes_Cursor)} (H : order_start.m x0 = some r)  :
    Fc Tryz.prog 100 #[.pointer (some ⟨b0, 0, none⟩)] [rB b0 [.slice a21 n23 p22, .int .i64 x0.at', v25] 139, rR (tInt .u8) .i a21 p22 n23 x0.b', rE .i v25 x0.err'] B I h (fun v L => ∃ (a46 : Option Addr) (p47 : Nat) (n48 : Nat) (v50 : Value), v = .agg #[.bool r.1.Protected, .bool r.1.Numeric, .int .i64 r.1.Show, .bool r.1.Modified] ∧ L = [rB b0 [.slice a46 n48 p47, .int .i64 r.2.at', v50] 139, rR (tInt .u8) .i a46 p47 n48 r.2.b', rE .i v50 r.2.err']) := by
 refine fc_of fun E hs => ?_
 unfold order_start.m at H
 obtain rfl := hs.nR d1
 refine fn_of2 (args := [.pointer (some ⟨b0, 0, none⟩)]) (rs := [.cell 2 55]) (N := 21) Tryz.func100 rfl rfl rfl rfl ?_
 refine st 2 [] (k_op (nA hs [.bool false, .bool false, .int .i64 0, .bool false] (.agg #[.bool false, .bool false, .int .i64 0, .bool false]) ?_))
 intro b27 h hs
 obtain ⟨hk, bk⟩ := (hs.f d1).call tk1 (.c (qK d1) (.c (xK d2) .n))
 refine st 4 [] (k_call H (fun _ m => bytes_Cursor_Peek.calls m hk) ?_)
 rintro t28 _ h H ⟨I, _, ⟨a29, p30, n31, v33, rfl, rfl⟩, hk⟩
 replace hs := bk hk ct3 rfl
 obtain rfl := hs.nR d1
 obtain ⟨hk, bk⟩ := hs.call tk0 .n
 refine st 9 [] (k_call H (fun _ m => attr_Get.calls m hk) ?_)
 rintro t35 _ h H ⟨I, _, ⟨v36, rfl, rfl⟩, hk⟩
 replace hs := bk hk ct1 rfl
 refine st 3 [] (k_op (nA hs [.bool false, .bool false, .int .i64 0, .bool false] (.agg #[.bool false, .bool false, .int .i64 0, .bool false]) ?_))
 intro b38 h hs
 refine k_op (sN hs 0 [.bool t35.1.Protected, .bool t35.1.Numeric, .int .i64 t35.1.Show, .bool t35.1.Modified] [.bool t35.1.Protected, .bool t35.1.Numeric, .int .i64 t35.1.Show, .bool t35.1.Modified] (ones_of rfl) ?_)
 intro h hs
 obtain ⟨hk, bk⟩ := (hs.f d2).call tk1 (.c (qK d2) (.c (xK d3) (.c (xK d1) .n)))
 refine st 6 [] (k_call H (fun _ m => order_taken.calls m hk) ?_)
 rintro t39 _ h H ⟨I, _, ⟨a40, p41, n42, v44, rfl, rfl⟩, hk⟩
 replace hs := bk hk ct3 rfl
 obtain rfl := hs.nR d1
 refine st 3 [] (k_op (lN (hs.bl d3) 0 4 ?_))
 refine k_op (sN (hs.f d7) 0 [.bool t35.1.Protected, .bool t35.1.Numeric, .int .i64 t35.1.Show, .bool t35.1.Modified] [.bool t35.1.Protected, .bool t35.1.Numeric, .int .i64 t35.1.Show, .bool t35.1.Modified] (ones_of rfl) ?_)
 intro h hs
 refine st 1 [] ?_
 refine k_retQ ?_
 obtain rfl := Option.some.inj H
 exact ⟨[.agg #[.bool t35.1.Protected, .bool t35.1.Numeric, .int .i64 t35.1.Show, .bool t35.1.Modified]], (.cons (.agg (by kernel_rfl) (by kernel_rfl) (by kernel_rfl) ((hs.bl d0).seg_ 0 4 (Nat.le_of_ble_eq_true rfl))) .nil), I, _, ⟨a40, p41, t39.b'.length, (v44), rfl, rfl⟩, hs.pk (.c d1 (.c d1 (.c d1 .n)))⟩

/-! shutter/order.char -/
def order_char.m (x0 : bytes_Cursor) : Option (Int × bytes_Cursor) :=
  ((bytes_Cursor_Peek.m x0).bind fun t27 => ((attr_Char.m t27.1).bind fun t34 => bif t34 then ((order_taken.m t27.2.2 GoErr.nil).bind fun t35 => (some (t27.1, t35))) else ((order_taken.m t27.2.2 (GoErr.no 3)).bind fun t42 => (some (t27.1, t42)))))

theorem order_char.calls {B I : Gh} {h : Heap} {x0 : bytes_Cursor} {b0 : Nat} {a21 : Option Addr} {p22 : Nat} {n23 : Nat} {v25 : Value} {r : (Int × bytes_Cursor)} (H : order_char.m x0 = some r)  :
    Fc Tryz.prog 101 #[.pointer (some ⟨b0, 0, none⟩)] [rB b0 [.slice a21 n23 p22, .int .i64 x0.at', v25] 139, rR (tInt .u8) .i a21 p22 n23 x0.b', rE .i v25 x0.err'] B I h (fun v L => ∃ (a49 : Option Addr) (p50 : Nat) (n51 : Nat) (v53 : Value), v = .int .u8 r.1 ∧ L = [rB b0 [.slice a49 n51 p50, .int .i64 r.2.at', v53] 139, rR (tInt .u8) .i a49 p50 n51 r.2.b', rE .i v53 r.2.err']) := by
 refine fc_of fun E hs => ?_
 unfold order_char.m at H
 obtain rfl := hs.nR d1
 refine fn_of (args := [.pointer (some ⟨b0, 0, none⟩)]) (rs := [.tmp 2]) (N := 19) Tryz.func101 rfl rfl rfl rfl ?_
 obtain ⟨hk, bk⟩ := hs.call tk1 (.c (qK d0) (.c (xK d1) .n))
 refine st 7 [] (k_call H (fun _ m => bytes_Cursor_Peek.calls m hk) ?_)
 rintro t27 _ h H ⟨I, _, ⟨a28, p29, n30, v32, rfl, rfl⟩, hk⟩
 replace hs := bk hk ct3 rfl
 obtain rfl := hs.nR d1
 refine st 14 [] (k_call H (fun _ m => attr_Char.calls m) ?_)
 rintro t34 _ _ H ⟨rfl, rfl⟩
 cases t34
 ·rw [cond_false] at H
  obtain ⟨hk, bk⟩ := hs.call tk1 (.c (qK d0) (.c (xK d1) (.c xC .n)))
  refine st 11 [true] (k_call H (fun _ m => order_taken.calls m hk) ?_)
  rintro t42 _ h H ⟨I, _, ⟨a43, p44, n45, v47, rfl, rfl⟩, hk⟩
  replace hs := bk hk ct3 rfl
  obtain rfl := hs.nR d1
  refine st 6 [] ?_
  refine k_retQ ?_
  obtain rfl := Option.some.inj H
  exact ⟨_, by kernel_rfl, I, _, ⟨a43, p44, t42.b'.length, (v47), rfl, rfl⟩, hs.pk (.c d0 (.c d0 (.c d0 .n)))⟩
 ·rw [cond_true] at H
  obtain ⟨hk, bk⟩ := hs.call tk1 (.c (qK d0) (.c (xK d1) (.c xN .n)))
  refine st 8 [false] (k_call H (fun _ m => order_taken.calls m hk) ?_)
  rintro t35 _ h H ⟨I, _, ⟨a36, p37, n38, v40, rfl, rfl⟩, hk⟩
  replace hs := bk hk ct3 rfl
  obtain rfl := hs.nR d1
  refine st 6 [] ?_
  refine k_retQ ?_
  obtain rfl := Option.some.inj H
  exact ⟨_, by kernel_rfl, I, _, ⟨a36, p37, t35.b'.length, (v40), rfl, rfl⟩, hs.pk (.c d0 (.c d0 (.c d0 .n)))⟩

end Go.Proofs.YtfbcjibdgicaoaaGreatDoor.Sx
