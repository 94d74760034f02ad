/- Printed walks, part 3: each function's model, and that the code comes to it. -/
import Derived.Test.YtfbcjibdgicaoaaGreatDoorProg
import Derived.Test.YtfbcjibdgicaoaaGreatDoorV4
import Derived.Test.YtfbcjibdgicaoaaGreatDoorVF
import Derived.Test.YtfbcjibdgicaoaaGreatDoorV6
import Derived.Test.YtfbcjibdgicaoaaGreatDoorV7
import Derived.Test.YtfbcjibdgicaoaaGreatDoorG2
namespace Go.Proofs.YtfbcjibdgicaoaaGreatDoor.Sx
open Go
set_option maxRecDepth 100000
set_option maxHeartbeats 4000000

/-! shutter/shutterref07.Put -/
def shutterref07_Put.m (x0 : api_Order) (x1 : Int) : Option (List Int) :=
  (if x0.Kind = 1 then ((app [] x0.Text).bind fun l29 => (some l29)) else (if x0.Kind = 2 then ((shutterref05_Put.m x0.Attr).bind fun t35 => (some [29, t35])) else (if x0.Kind = 4 then (some [19]) else (if x0.Kind = 5 then (some [5]) else (letJ (α := Bool → Option (List Int)) (fun (x45 : Bool) => (bif x45 then ((shutterref04_Put.m x0.Addr x1).bind fun t49 => ((app [17] t49).bind fun l54 => (some l54))) else (letJ (α := Bool → Option (List Int)) (fun (x60 : Bool) => (bif x60 then ((shutterref04_Put.m x0.Addr x1).bind fun t64 => ((app [18] t64).bind fun l69 => (some l69))) else ((shutterref04_Put.m x0.Addr x1).bind fun t76 => ((app [60] t76).bind fun l81 => ((app l81 [x0.Char]).bind fun l88 => (some l88)))))) fun (j61 : Bool → Option (List Int)) => (if x0.Kind = 7 then (j61 true) else (j61 false))))) fun (j46 : Bool → Option (List Int)) => (if x0.Kind = 3 then (j46 true) else (j46 false)))))))

theorem shutterref07_Put.calls {B I : Gh} {h : Heap} {x0 : api_Order} {x1 : Int} {a21 : Option Addr} {p22 : Nat} {n23 : Nat} {r : (List Int)} (H : shutterref07_Put.m x0 x1 = some r)  :
    Fc Tryz.prog 34 #[.agg #[.int .i64 x0.Kind, .slice a21 n23 p22, .bool x0.Attr.Protected, .bool x0.Attr.Numeric, .int .i64 x0.Attr.Show, .bool x0.Attr.Modified, .int .i64 x0.Addr, .int .u8 x0.Char], .int .i64 x1] [rR (tInt .u8) .b a21 p22 n23 x0.Text] B I h (fun v L => ∃ (a205 : Option Addr) (p206 : Nat) (n207 : Nat), v = .slice a205 n207 p206 ∧ L = [rO (tInt .u8) .i a205 p206 n207 r]) := by
 refine fc_of fun E hs => ?_
 unfold shutterref07_Put.m at H
 obtain rfl := hs.nR d0
 refine fn_of (args := [.agg #[.int .i64 x0.Kind, .slice a21 x0.Text.length p22, .bool x0.Attr.Protected, .bool x0.Attr.Numeric, .int .i64 x0.Attr.Show, .bool x0.Attr.Modified, .int .i64 x0.Addr, .int .u8 x0.Char], .int .i64 x1]) (rs := [.tmp 4]) (N := 55) Tryz.func34 rfl rfl rfl rfl ?_
 refine st 2 [] (k_op (nB hs [.int .i64 x0.Kind, .slice a21 x0.Text.length p22, .bool x0.Attr.Protected, .bool x0.Attr.Numeric, .int .i64 x0.Attr.Show, .bool x0.Attr.Modified, .int .i64 x0.Addr, .int .u8 x0.Char] ?_))
 intro b25 h hs
 refine st 6 [] (k_op (lB (hs.bl d0) 0 rfl ?_))
 refine k_ite H (fun c26 H => ?_) (fun c26 H => ?_)
 ·refine st 4 [true] (k_op (nS (e := 5) hs .i (tInt .u8) ([] : List Int) [] 1 (.int .u8 0) (Reps.int (I := (Cl.G .i E.B I)) (k := .u8) (l := [])) ?_))
  intro b27 h hs
  refine st 1 [] (k_op (lB (hs.bl d1) 1 rfl ?_))
  obtain ⟨l29, m30, H⟩ := bind_some H
  refine k_op (aO (e := 5) (bytes := 1) hs ((hs.sR d2).flat flat_int) m30 ?_)
  intro a31 p32 h hs
  refine st 2 [] ?_
  refine k_retQ ?_
  obtain rfl := Option.some.inj H
  exact ⟨_, by kernel_rfl, I, _, ⟨a31, p32, l29.length, rfl, rfl⟩, hs.pk (.c d0 .n)⟩
 ·refine st 7 [false] (k_op (lB (hs.bl d0) 0 rfl ?_))
  refine k_ite H (fun c34 H => ?_) (fun c34 H => ?_)
  ·refine st 5 [true] (k_op (lN (hs.bl d0) 2 4 ?_))
   obtain ⟨hk, bk⟩ := hs.call tk0 .n
   refine k_call H (fun _ m => shutterref05_Put.calls m hk) ?_
   rintro t35 _ h H ⟨I, _, ⟨rfl, rfl⟩, hk⟩
   replace hs := bk hk ct0 rfl
   refine k_op (nS (e := 5) hs .i (tInt .u8) ([29, t35] : List Int) [.int .u8 29, .int .u8 t35] 1 (.int .u8 0) (Reps.int (I := (Cl.G .i E.B I)) (k := .u8) (l := [29, t35])) ?_)
   intro b36 h hs
   refine st 2 [] ?_
   refine k_retQ ?_
   obtain rfl := Option.some.inj H
   exact ⟨_, by kernel_rfl, I, _, ⟨(some ⟨b36, 0, none⟩), 2, 2, rfl, rfl⟩, hs.pk (.c d0 .n)⟩
  ·refine st 7 [false] (k_op (lB (hs.bl d0) 0 rfl ?_))
   refine k_ite H (fun c38 H => ?_) (fun c38 H => ?_)
   ·refine st 4 [true] (k_op (nS (e := 5) hs .i (tInt .u8) ([19] : List Int) [.int .u8 19] 1 (.int .u8 0) (Reps.int (I := (Cl.G .i E.B I)) (k := .u8) (l := [19])) ?_))
    intro b39 h hs
    refine st 2 [] ?_
    refine k_retQ ?_
    obtain rfl := Option.some.inj H
    exact ⟨_, by kernel_rfl, I, _, ⟨(some ⟨b39, 0, none⟩), 1, 1, rfl, rfl⟩, hs.pk (.c d0 .n)⟩
   ·refine st 7 [false] (k_op (lB (hs.bl d0) 0 rfl ?_))
    refine k_ite H (fun c41 H => ?_) (fun c41 H => ?_)
    ·refine st 4 [true] (k_op (nS (e := 5) hs .i (tInt .u8) ([5] : List Int) [.int .u8 5] 1 (.int .u8 0) (Reps.int (I := (Cl.G .i E.B I)) (k := .u8) (l := [5])) ?_))
     intro b42 h hs
     refine st 2 [] ?_
     refine k_retQ ?_
     obtain rfl := Option.some.inj H
     exact ⟨_, by kernel_rfl, I, _, ⟨(some ⟨b42, 0, none⟩), 1, 1, rfl, rfl⟩, hs.pk (.c d0 .n)⟩
    ·refine st 5 [false] ?_
     obtain ⟨j46, e204, H⟩ := letJ_some H
     refine k_join (fun ρ h => ∃ (x45 : Bool) (I : Gh), j46 x45 = some r ∧ Fits [(1, .int .i64 x1), (2, .pointer (some ⟨b25, 0, none⟩)), (29, .bool x45)] ρ ∧ St E [rR (tInt .u8) .b a21 p22 x0.Text.length x0.Text, rB b25 [.int .i64 x0.Kind, .slice a21 x0.Text.length p22, .bool x0.Attr.Protected, .bool x0.Attr.Numeric, .int .i64 x0.Attr.Show, .bool x0.Attr.Modified, .int .i64 x0.Addr, .int .u8 x0.Char] 76] I h) ?_ ?_
     ·refine st 2 [] (k_op (lB (hs.bl d0) 0 rfl ?_))
      refine k_ite H (fun c44 H => ?_) (fun c44 H => ?_)
      ·refine st 1 [] ?_
       exact k_end ⟨true, I, H, ⟨by kernel_rfl, by kernel_rfl, by kernel_rfl, trivial⟩, hs.pk (.c d1 (.c d0 .n))⟩
      ·refine st 1 [] ?_
       exact k_end ⟨false, I, H, ⟨by kernel_rfl, by kernel_rfl, by kernel_rfl, trivial⟩, hs.pk (.c d1 (.c d0 .n))⟩
     ·clear H
      rintro ρ h ⟨x45, I, H, hf, hs⟩
      refine k_fits _ hf ?_ rfl
      subst e204
      try dsimp only at H
      cases x45
      ·rw [cond_false] at H
       refine st 4 [false] ?_
       obtain ⟨j61, e203, H⟩ := letJ_some H
       refine k_join (fun ρ h => ∃ (x60 : Bool) (I : Gh), j61 x60 = some r ∧ Fits [(1, .int .i64 x1), (2, .pointer (some ⟨b25, 0, none⟩)), (38, .bool x60)] ρ ∧ St E [rR (tInt .u8) .b a21 p22 x0.Text.length x0.Text, rB b25 [.int .i64 x0.Kind, .slice a21 x0.Text.length p22, .bool x0.Attr.Protected, .bool x0.Attr.Numeric, .int .i64 x0.Attr.Show, .bool x0.Attr.Modified, .int .i64 x0.Addr, .int .u8 x0.Char] 76] I h) ?_ ?_
       ·refine st 2 [] (k_op (lB (hs.bl d1) 0 rfl ?_))
        refine k_ite H (fun c59 H => ?_) (fun c59 H => ?_)
        ·refine st 1 [] ?_
         exact k_end ⟨true, I, H, ⟨by kernel_rfl, by kernel_rfl, by kernel_rfl, trivial⟩, hs.pk (.c d0 (.c d0 .n))⟩
        ·refine st 1 [] ?_
         exact k_end ⟨false, I, H, ⟨by kernel_rfl, by kernel_rfl, by kernel_rfl, trivial⟩, hs.pk (.c d0 (.c d0 .n))⟩
       ·clear H
        rintro ρ h ⟨x60, I, H, hf, hs⟩
        refine k_fits _ hf ?_ rfl
        subst e203
        try dsimp only at H
        cases x60
        ·rw [cond_false] at H
         refine st 3 [false] ?_
         obtain ⟨hs0, bk0⟩ := hs.call tk0 (.c (qL d1) .n)
         have hs := hs0
         refine k_regD hs0 9 ?_
         refine aRun [1] 10 hs.keep ?_
         refine aL 2 rfl hs.keep (ll hs0 d0 (n := 6) rfl) (nmL hs0 d0) ?_
         refine aRun [3, 6] 7 hs.keep ?_
         refine aL 7 rfl hs.keep (ll hs0 d0 (n := 7) rfl) (nmL hs0 d0) ?_
         refine aT3 0 4 8 ?_ ?_ ?_
         ·refine aA rfl (nS (e := 5) hs .i (tInt .u8) ([60] : List Int) [.int .u8 60] 1 (.int .u8 0) (Reps.int (I := (Cl.G .i E.B I)) (k := .u8) (l := [60])) ?_)
          intro b74 h hs
          refine ⟨hs.keep, ?_⟩
          refine aT2 4 8 ?_ ?_
          ·obtain ⟨hk, bk⟩ := hs.call tk0 .n
           refine aA rfl (o_call H (fun _ m => shutterref04_Put.calls m hk) ?_)
           rintro t76 _ h H ⟨I, _, ⟨a77, p78, n79, rfl, rfl⟩, hk⟩
           replace hs := bk hk ct1 rfl
           obtain rfl := hs.nO d0
           refine ⟨hs.keep, ?_⟩
           refine aT2 5 8 ?_ ?_
           ·replace hs := (hs.f d1)
            obtain ⟨l81, m82, H⟩ := bind_some H
            refine aA rfl (aO (e := 5) (bytes := 1) hs (hs.sO d1) m82 ?_)
            intro a83 p84 h hs
            refine ⟨hs.keep, ?_⟩
            refine aO1 8 rfl (nS (e := 5) hs .i (tInt .u8) ([x0.Char] : List Int) [.int .u8 x0.Char] 1 (.int .u8 0) (Reps.int (I := (Cl.G .i E.B I)) (k := .u8) (l := [x0.Char])) ?_)
            intro b86 h hs
            refine ⟨hs.keep, ?_⟩
            replace hs := hs.pk (.c d0 (.c d0 (.c d0 .n)))
            replace hs := bk0 hs ct3 rfl
            replace hs := (hs.f d1)
            obtain ⟨l88, m89, H⟩ := bind_some H
            refine aOL 9 rfl (aO (e := 5) (bytes := 1) hs (hs.sO d1) m89 ?_)
            intro a90 p91 h hs
            refine aOL 10 rfl (owp_pure (.slice a90 l88.length p91) (by kernel_rfl) ?_)
            refine aEnd ?_
            refine k_retQ ?_
            obtain rfl := Option.some.inj H
            exact ⟨_, by kernel_rfl, I, _, ⟨a90, p91, l88.length, rfl, rfl⟩, hs.pk (.c d0 .n)⟩
           ·refine aA rfl (nS (e := 5) hs .i (tInt .u8) ([x0.Char] : List Int) [.int .u8 x0.Char] 1 (.int .u8 0) (Reps.int (I := (Cl.G .i E.B I)) (k := .u8) (l := [x0.Char])) ?_)
            intro b93 h hs
            refine ⟨hs.keep, ?_⟩
            replace hs := (hs.f d2)
            obtain ⟨l95, m96, H⟩ := bind_some H
            refine aO1 5 rfl (aO (e := 5) (bytes := 1) hs (hs.sO d2) m96 ?_)
            intro a97 p98 h hs
            refine ⟨hs.keep, ?_⟩
            replace hs := hs.pk (.c d0 (.c d0 (.c d0 .n)))
            replace hs := bk0 hs ct3 rfl
            obtain ⟨l100, m101, H⟩ := bind_some H
            refine aOL 9 rfl (aO (e := 5) (bytes := 1) hs (hs.sO d1) m101 ?_)
            intro a102 p103 h hs
            refine aOL 10 rfl (owp_pure (.slice a102 l100.length p103) (by kernel_rfl) ?_)
            refine aEnd ?_
            refine k_retQ ?_
            obtain rfl := Option.some.inj H
            exact ⟨_, by kernel_rfl, I, _, ⟨a102, p103, l100.length, rfl, rfl⟩, hs.pk (.c d0 .n)⟩
          ·refine aA rfl (nS (e := 5) hs .i (tInt .u8) ([x0.Char] : List Int) [.int .u8 x0.Char] 1 (.int .u8 0) (Reps.int (I := (Cl.G .i E.B I)) (k := .u8) (l := [x0.Char])) ?_)
           intro b105 h hs
           refine ⟨hs.keep, ?_⟩
           obtain ⟨hk, bk⟩ := hs.call tk0 .n
           refine aO1 4 rfl (o_call H (fun _ m => shutterref04_Put.calls m hk) ?_)
           rintro t107 _ h H ⟨I, _, ⟨a108, p109, n110, rfl, rfl⟩, hk⟩
           replace hs := bk hk ct1 rfl
           obtain rfl := hs.nO d0
           refine ⟨hs.keep, ?_⟩
           replace hs := (hs.f d2)
           obtain ⟨l112, m113, H⟩ := bind_some H
           refine aO1 5 rfl (aO (e := 5) (bytes := 1) hs (hs.sO d1) m113 ?_)
           intro a114 p115 h hs
           refine ⟨hs.keep, ?_⟩
           replace hs := hs.pk (.c d0 (.c d0 (.c d0 .n)))
           replace hs := bk0 hs ct3 rfl
           obtain ⟨l117, m118, H⟩ := bind_some H
           refine aOL 9 rfl (aO (e := 5) (bytes := 1) hs (hs.sO d2) m118 ?_)
           intro a119 p120 h hs
           refine aOL 10 rfl (owp_pure (.slice a119 l117.length p120) (by kernel_rfl) ?_)
           refine aEnd ?_
           refine k_retQ ?_
           obtain rfl := Option.some.inj H
           exact ⟨_, by kernel_rfl, I, _, ⟨a119, p120, l117.length, rfl, rfl⟩, hs.pk (.c d0 .n)⟩
         ·obtain ⟨hk, bk⟩ := hs.call tk0 .n
          refine aA rfl (o_call H (fun _ m => shutterref04_Put.calls m hk) ?_)
          rintro t122 _ h H ⟨I, _, ⟨a123, p124, n125, rfl, rfl⟩, hk⟩
          replace hs := bk hk ct1 rfl
          obtain rfl := hs.nO d0
          refine ⟨hs.keep, ?_⟩
          refine aT2 0 8 ?_ ?_
          ·refine aA rfl (nS (e := 5) hs .i (tInt .u8) ([60] : List Int) [.int .u8 60] 1 (.int .u8 0) (Reps.int (I := (Cl.G .i E.B I)) (k := .u8) (l := [60])) ?_)
           intro b127 h hs
           refine ⟨hs.keep, ?_⟩
           refine aT2 5 8 ?_ ?_
           ·obtain ⟨l129, m130, H⟩ := bind_some H
            refine aA rfl (aO (e := 5) (bytes := 1) hs (hs.sO d1) m130 ?_)
            intro a131 p132 h hs
            refine ⟨hs.keep, ?_⟩
            refine aO1 8 rfl (nS (e := 5) hs .i (tInt .u8) ([x0.Char] : List Int) [.int .u8 x0.Char] 1 (.int .u8 0) (Reps.int (I := (Cl.G .i E.B I)) (k := .u8) (l := [x0.Char])) ?_)
            intro b134 h hs
            refine ⟨hs.keep, ?_⟩
            replace hs := hs.pk (.c d0 (.c d0 (.c d0 .n)))
            replace hs := bk0 hs ct3 rfl
            replace hs := (hs.f d1)
            obtain ⟨l136, m137, H⟩ := bind_some H
            refine aOL 9 rfl (aO (e := 5) (bytes := 1) hs (hs.sO d1) m137 ?_)
            intro a138 p139 h hs
            refine aOL 10 rfl (owp_pure (.slice a138 l136.length p139) (by kernel_rfl) ?_)
            refine aEnd ?_
            refine k_retQ ?_
            obtain rfl := Option.some.inj H
            exact ⟨_, by kernel_rfl, I, _, ⟨a138, p139, l136.length, rfl, rfl⟩, hs.pk (.c d0 .n)⟩
           ·refine aA rfl (nS (e := 5) hs .i (tInt .u8) ([x0.Char] : List Int) [.int .u8 x0.Char] 1 (.int .u8 0) (Reps.int (I := (Cl.G .i E.B I)) (k := .u8) (l := [x0.Char])) ?_)
            intro b141 h hs
            refine ⟨hs.keep, ?_⟩
            replace hs := (hs.f d1)
            obtain ⟨l143, m144, H⟩ := bind_some H
            refine aO1 5 rfl (aO (e := 5) (bytes := 1) hs (hs.sO d2) m144 ?_)
            intro a145 p146 h hs
            refine ⟨hs.keep, ?_⟩
            replace hs := hs.pk (.c d0 (.c d0 (.c d0 .n)))
            replace hs := bk0 hs ct3 rfl
            obtain ⟨l148, m149, H⟩ := bind_some H
            refine aOL 9 rfl (aO (e := 5) (bytes := 1) hs (hs.sO d1) m149 ?_)
            intro a150 p151 h hs
            refine aOL 10 rfl (owp_pure (.slice a150 l148.length p151) (by kernel_rfl) ?_)
            refine aEnd ?_
            refine k_retQ ?_
            obtain rfl := Option.some.inj H
            exact ⟨_, by kernel_rfl, I, _, ⟨a150, p151, l148.length, rfl, rfl⟩, hs.pk (.c d0 .n)⟩
          ·refine aA rfl (nS (e := 5) hs .i (tInt .u8) ([x0.Char] : List Int) [.int .u8 x0.Char] 1 (.int .u8 0) (Reps.int (I := (Cl.G .i E.B I)) (k := .u8) (l := [x0.Char])) ?_)
           intro b153 h hs
           refine ⟨hs.keep, ?_⟩
           refine aO1 0 rfl (nS (e := 5) hs .i (tInt .u8) ([60] : List Int) [.int .u8 60] 1 (.int .u8 0) (Reps.int (I := (Cl.G .i E.B I)) (k := .u8) (l := [60])) ?_)
           intro b155 h hs
           refine ⟨hs.keep, ?_⟩
           obtain ⟨l157, m158, H⟩ := bind_some H
           refine aO1 5 rfl (aO (e := 5) (bytes := 1) hs (hs.sO d2) m158 ?_)
           intro a159 p160 h hs
           refine ⟨hs.keep, ?_⟩
           replace hs := hs.pk (.c d0 (.c d0 (.c d0 .n)))
           replace hs := bk0 hs ct3 rfl
           obtain ⟨l162, m163, H⟩ := bind_some H
           refine aOL 9 rfl (aO (e := 5) (bytes := 1) hs (hs.sO d1) m163 ?_)
           intro a164 p165 h hs
           refine aOL 10 rfl (owp_pure (.slice a164 l162.length p165) (by kernel_rfl) ?_)
           refine aEnd ?_
           refine k_retQ ?_
           obtain rfl := Option.some.inj H
           exact ⟨_, by kernel_rfl, I, _, ⟨a164, p165, l162.length, rfl, rfl⟩, hs.pk (.c d0 .n)⟩
         ·refine aA rfl (nS (e := 5) hs .i (tInt .u8) ([x0.Char] : List Int) [.int .u8 x0.Char] 1 (.int .u8 0) (Reps.int (I := (Cl.G .i E.B I)) (k := .u8) (l := [x0.Char])) ?_)
          intro b167 h hs
          refine ⟨hs.keep, ?_⟩
          refine aT2 0 4 ?_ ?_
          ·refine aA rfl (nS (e := 5) hs .i (tInt .u8) ([60] : List Int) [.int .u8 60] 1 (.int .u8 0) (Reps.int (I := (Cl.G .i E.B I)) (k := .u8) (l := [60])) ?_)
           intro b169 h hs
           refine ⟨hs.keep, ?_⟩
           obtain ⟨hk, bk⟩ := hs.call tk0 .n
           refine aO1 4 rfl (o_call H (fun _ m => shutterref04_Put.calls m hk) ?_)
           rintro t171 _ h H ⟨I, _, ⟨a172, p173, n174, rfl, rfl⟩, hk⟩
           replace hs := bk hk ct1 rfl
           obtain rfl := hs.nO d0
           refine ⟨hs.keep, ?_⟩
           replace hs := (hs.f d1)
           obtain ⟨l176, m177, H⟩ := bind_some H
           refine aO1 5 rfl (aO (e := 5) (bytes := 1) hs (hs.sO d1) m177 ?_)
           intro a178 p179 h hs
           refine ⟨hs.keep, ?_⟩
           replace hs := hs.pk (.c d0 (.c d0 (.c d0 .n)))
           replace hs := bk0 hs ct3 rfl
           obtain ⟨l181, m182, H⟩ := bind_some H
           refine aOL 9 rfl (aO (e := 5) (bytes := 1) hs (hs.sO d2) m182 ?_)
           intro a183 p184 h hs
           refine aOL 10 rfl (owp_pure (.slice a183 l181.length p184) (by kernel_rfl) ?_)
           refine aEnd ?_
           refine k_retQ ?_
           obtain rfl := Option.some.inj H
           exact ⟨_, by kernel_rfl, I, _, ⟨a183, p184, l181.length, rfl, rfl⟩, hs.pk (.c d0 .n)⟩
          ·obtain ⟨hk, bk⟩ := hs.call tk0 .n
           refine aA rfl (o_call H (fun _ m => shutterref04_Put.calls m hk) ?_)
           rintro t186 _ h H ⟨I, _, ⟨a187, p188, n189, rfl, rfl⟩, hk⟩
           replace hs := bk hk ct1 rfl
           obtain rfl := hs.nO d0
           refine ⟨hs.keep, ?_⟩
           refine aO1 0 rfl (nS (e := 5) hs .i (tInt .u8) ([60] : List Int) [.int .u8 60] 1 (.int .u8 0) (Reps.int (I := (Cl.G .i E.B I)) (k := .u8) (l := [60])) ?_)
           intro b191 h hs
           refine ⟨hs.keep, ?_⟩
           obtain ⟨l193, m194, H⟩ := bind_some H
           refine aO1 5 rfl (aO (e := 5) (bytes := 1) hs (hs.sO d1) m194 ?_)
           intro a195 p196 h hs
           refine ⟨hs.keep, ?_⟩
           replace hs := hs.pk (.c d0 (.c d0 (.c d0 .n)))
           replace hs := bk0 hs ct3 rfl
           obtain ⟨l198, m199, H⟩ := bind_some H
           refine aOL 9 rfl (aO (e := 5) (bytes := 1) hs (hs.sO d2) m199 ?_)
           intro a200 p201 h hs
           refine aOL 10 rfl (owp_pure (.slice a200 l198.length p201) (by kernel_rfl) ?_)
           refine aEnd ?_
           refine k_retQ ?_
           obtain rfl := Option.some.inj H
           exact ⟨_, by kernel_rfl, I, _, ⟨a200, p201, l198.length, rfl, rfl⟩, hs.pk (.c d0 .n)⟩
        ·rw [cond_true] at H
         refine st 3 [true] (k_op (nS (e := 5) hs .i (tInt .u8) ([18] : List Int) [.int .u8 18] 1 (.int .u8 0) (Reps.int (I := (Cl.G .i E.B I)) (k := .u8) (l := [18])) ?_))
         intro b62 h hs
         refine st 1 [] (k_op (lB (hs.bl d2) 6 rfl ?_))
         obtain ⟨hk, bk⟩ := hs.call tk0 .n
         refine st 1 [] (k_call H (fun _ m => shutterref04_Put.calls m hk) ?_)
         rintro t64 _ h H ⟨I, _, ⟨a65, p66, n67, rfl, rfl⟩, hk⟩
         replace hs := bk hk ct1 rfl
         obtain rfl := hs.nO d0
         replace hs := (hs.f d1)
         obtain ⟨l69, m70, H⟩ := bind_some H
         refine k_op (aO (e := 5) (bytes := 1) hs (hs.sO d1) m70 ?_)
         intro a71 p72 h hs
         refine st 2 [] ?_
         refine k_retQ ?_
         obtain rfl := Option.some.inj H
         exact ⟨_, by kernel_rfl, I, _, ⟨a71, p72, l69.length, rfl, rfl⟩, hs.pk (.c d0 .n)⟩
      ·rw [cond_true] at H
       refine st 3 [true] (k_op (nS (e := 5) hs .i (tInt .u8) ([17] : List Int) [.int .u8 17] 1 (.int .u8 0) (Reps.int (I := (Cl.G .i E.B I)) (k := .u8) (l := [17])) ?_))
       intro b47 h hs
       refine st 1 [] (k_op (lB (hs.bl d2) 6 rfl ?_))
       obtain ⟨hk, bk⟩ := hs.call tk0 .n
       refine st 1 [] (k_call H (fun _ m => shutterref04_Put.calls m hk) ?_)
       rintro t49 _ h H ⟨I, _, ⟨a50, p51, n52, rfl, rfl⟩, hk⟩
       replace hs := bk hk ct1 rfl
       obtain rfl := hs.nO d0
       replace hs := (hs.f d1)
       obtain ⟨l54, m55, H⟩ := bind_some H
       refine k_op (aO (e := 5) (bytes := 1) hs (hs.sO d1) m55 ?_)
       intro a56 p57 h hs
       refine st 2 [] ?_
       refine k_retQ ?_
       obtain rfl := Option.some.inj H
       exact ⟨_, by kernel_rfl, I, _, ⟨a56, p57, l54.length, rfl, rfl⟩, hs.pk (.c d0 .n)⟩

/-! shutter/shutterref08.Writes -/
def shutterref08_Writes.m (x0 : Int) : Option Bool :=
  (if x0 = 241 then (some true) else (some (x0 == 245)))

theorem shutterref08_Writes.calls {x0 : Int} {h : Heap} {r : Bool} (H : shutterref08_Writes.m x0 = some r)   :
    Ret Tryz.prog 31 #[.int .i64 x0] h (fun v h' => .bool r = v ∧ h' = h) := by
 unfold shutterref08_Writes.m at H
 refine fn_of (args := [.int .i64 x0]) (rs := [.tmp 2]) (N := 9) Tryz.func31 rfl rfl rfl rfl ?_
 refine st 7 [] (k_ite H (fun c21 H => ?_) (fun c21 H => ?_))
 ·refine st 6 [] ?_
  refine k_retQ ?_
  obtain rfl := Option.some.inj H
  exact ⟨_, by kernel_rfl, rfl, rfl⟩
 ·refine st 6 [] ?_
  refine k_retQ ?_
  obtain rfl := Option.some.inj H
  exact ⟨_, by kernel_rfl, rfl, rfl⟩

/-! shutter/shutterref08.Known -/
def shutterref08_Known.m (x0 : Int) : Option Bool :=
  ((shutterref08_Writes.m x0).bind fun t21 => bif t21 then (some true) else (if x0 = 111 then (some true) else (if x0 = 242 then (some true) else (some (x0 == 246)))))

theorem shutterref08_Known.calls {x0 : Int} {h : Heap} {r : Bool} (H : shutterref08_Known.m x0 = some r)   :
    Ret Tryz.prog 30 #[.int .i64 x0] h (fun v h' => .bool r = v ∧ h' = h) := by
 unfold shutterref08_Known.m at H
 refine fn_of (args := [.int .i64 x0]) (rs := [.tmp 2]) (N := 17) Tryz.func30 rfl rfl rfl rfl ?_
 refine st 7 [] (k_call H (fun _ m => shutterref08_Writes.calls m) ?_)
 rintro t21 _ _ H ⟨rfl, rfl⟩
 cases t21
 ·rw [cond_false] at H
  refine st 2 [] (k_ite H (fun c22 H => ?_) (fun c22 H => ?_))
  ·refine st 11 [] ?_
   refine k_retQ ?_
   obtain rfl := Option.some.inj H
   exact ⟨_, by kernel_rfl, rfl, rfl⟩
  ·refine st 3 [] (k_ite H (fun c23 H => ?_) (fun c23 H => ?_))
   ·refine st 7 [] ?_
    refine k_retQ ?_
    obtain rfl := Option.some.inj H
    exact ⟨_, by kernel_rfl, rfl, rfl⟩
   ·refine st 7 [] ?_
    refine k_retQ ?_
    obtain rfl := Option.some.inj H
    exact ⟨_, by kernel_rfl, rfl, rfl⟩
 ·rw [cond_true] at H
  refine st 14 [] ?_
  refine k_retQ ?_
  obtain rfl := Option.some.inj H
  exact ⟨_, by kernel_rfl, rfl, rfl⟩

/-! shutter/shutterref08.Write -/
def shutterref08_Write.l1.m (K : Nat) (x0 : api_Out) (x1 : Int) : Nat → (List Int) → Int → Option (((List Int) × Int × Int) ⊕ ((List Int)))
  | 0, _, _ => none
  | k + 1, x42, x47 => (if x47 < (x0.Orders.length : Int) then (if 0 ≤ x47 then ((shutterref07_Wrong.m K (⟨(at_ x0.Orders x47).Kind, (at_ x0.Orders x47).Text, ((at_ x0.Orders x47).Attr), (at_ x0.Orders x47).Addr, (at_ x0.Orders x47).Char⟩ : api_Order) x1).bind fun t66 => (letJ (α := Int → Option (((List Int) × Int × Int) ⊕ ((List Int)))) (fun (x89 : Int) => (if x89 = 0 then ((shutterref07_Put.m (⟨(at_ x0.Orders x47).Kind, (at_ x0.Orders x47).Text, ((at_ x0.Orders x47).Attr), (at_ x0.Orders x47).Addr, (at_ x0.Orders x47).Char⟩ : api_Order) x1).bind fun t100 => ((app x42 t100).bind fun l105 => (shutterref08_Write.l1.m K x0 x1 k l105 (w64 (x47 + 1))))) else (some (Sum.inl ([], x89, x47))))) fun (j90 : Int → Option (((List Int) × Int × Int) ⊕ ((List Int)))) => (if t66 = 0 then (if x47 > 0 then (if (at_ x0.Orders x47).Kind = 1 then (if 0 ≤ (w64 (x47 - 1)) then (if (w64 (x47 - 1)) < (x0.Orders.length : Int) then (if (at_ x0.Orders (w64 (x47 - 1))).Kind = 1 then (j90 1) else (j90 t66)) else none) else none) else (j90 t66)) else (j90 t66)) else (j90 t66)))) else none) else (some (Sum.inr x42)))
def shutterref08_Write.m (K : Nat) (x0 : api_Out) (x1 : Int) : Option ((List Int) × Int × Int) :=
  ((shutterref08_Known.m x0.Cmd).bind fun t26 => bif t26 then (letJ (α := Bool → Option ((List Int) × Int × Int)) (fun (x30 : Bool) => (bif x30 then (bif ((x0.Wcc.Alarm == false) && ((x0.Wcc.Unlock == false) && ((x0.Wcc.Reset == false) && true))) then (if (x0.Orders.length : Int) > 0 then (some ([], 1, (-1))) else (some ([(IntKind.u8.wrap (x0.Cmd))], 0, (-1)))) else (some ([], 1, (-1)))) else ((shutterref05_PutWcc.m x0.Wcc).bind fun t34 => ((app [(IntKind.u8.wrap (x0.Cmd))] [t34]).bind fun l37 => ((shutterref08_Write.l1.m K x0 x1 K l37 0).bind fun s48 => match s48 with | .inl q => (some q) | .inr x49 => (if (x49.length : Int) > 8192 then (some ([], 6, (-1))) else (some (x49, 0, (-1))))))))) fun (j31 : Bool → Option ((List Int) × Int × Int)) => ((shutterref08_Writes.m x0.Cmd).bind fun t29 => bif t29 then (j31 false) else (j31 true))) else (some ([], 5, (-1))))

theorem shutterref08_Write.calls {B I : Gh} {h : Heap} {K : Nat} {x0 : api_Out} {x1 : Int} {a21 : Option Addr} {p22 : Nat} {n23 : Nat} {r : ((List Int) × Int × Int)} (H : shutterref08_Write.m K x0 x1 = some r)  :
    Fc Tryz.prog 9 #[.agg #[.int .i64 x0.Cmd, .bool x0.Wcc.Alarm, .bool x0.Wcc.Unlock, .bool x0.Wcc.Reset, .slice a21 n23 p22], .int .i64 x1] [rR t_api_Order .b a21 p22 n23 x0.Orders] B I h (fun v L => ∃ (a113 : Option Addr) (p114 : Nat) (n115 : Nat), v = .tuple #[.slice a113 n115 p114, .int .i64 r.2.1, .int .i64 r.2.2] ∧ L = [rO (tInt .u8) .i a113 p114 n115 r.1]) := by
 refine fc_of fun E hs => ?_
 unfold shutterref08_Write.m at H
 obtain rfl := hs.nR d0
 refine fn_of (args := [.agg #[.int .i64 x0.Cmd, .bool x0.Wcc.Alarm, .bool x0.Wcc.Unlock, .bool x0.Wcc.Reset, .slice a21 x0.Orders.length p22], .int .i64 x1]) (rs := [.tmp 4, .tmp 5, .tmp 6]) (N := 95) Tryz.func9 rfl rfl rfl rfl ?_
 refine st 2 [] (k_op (nB hs [.int .i64 x0.Cmd, .bool x0.Wcc.Alarm, .bool x0.Wcc.Unlock, .bool x0.Wcc.Reset, .slice a21 x0.Orders.length p22] ?_))
 intro b25 h hs
 refine st 8 [] (k_op (lB (hs.bl d0) 0 rfl ?_))
 refine k_call H (fun _ m => shutterref08_Known.calls m) ?_
 rintro t26 _ _ H ⟨rfl, rfl⟩
 cases t26
 ·rw [cond_false] at H
  refine st 9 [true] ?_
  refine k_retQ ?_
  obtain rfl := Option.some.inj H
  exact ⟨_, by kernel_rfl, I, _, ⟨none, 0, 0, rfl, rfl⟩, hs.pk (.f imON .n)⟩
 ·rw [cond_true] at H
  refine st 7 [false] (k_op (lB (hs.bl d0) 0 rfl ?_))
  refine st 1 [] (k_op (nS (e := 5) hs .i (tInt .u8) ([(IntKind.u8.wrap (x0.Cmd))] : List Int) [.int .u8 (IntKind.u8.wrap (x0.Cmd))] 1 (.int .u8 0) (Reps.int (I := (Cl.G .i E.B I)) (k := .u8) (l := [(IntKind.u8.wrap (x0.Cmd))])) ?_))
  intro b27 h hs
  refine st 4 [] ?_
  obtain ⟨j31, e112, H⟩ := letJ_some H
  refine k_join (fun ρ h => ∃ (x30 : Bool) (I : Gh), j31 x30 = some r ∧ Fits [(1, .int .i64 x1), (2, .pointer (some ⟨b25, 0, none⟩)), (7, .slice (some ⟨b27, 0, none⟩) 1 1), (21, .bool x30)] ρ ∧ St E [rO (tInt .u8) .i (some ⟨b27, 0, none⟩) 1 1 [(IntKind.u8.wrap (x0.Cmd))], rR t_api_Order .b a21 p22 x0.Orders.length x0.Orders, rB b25 [.int .i64 x0.Cmd, .bool x0.Wcc.Alarm, .bool x0.Wcc.Unlock, .bool x0.Wcc.Reset, .slice a21 x0.Orders.length p22] 39] I h) ?_ ?_
  ·refine st 2 [] (k_op (lB (hs.bl d1) 0 rfl ?_))
   refine k_call H (fun _ m => shutterref08_Writes.calls m) ?_
   rintro t29 _ _ H ⟨rfl, rfl⟩
   cases t29
   ·rw [cond_false] at H
    refine st 2 [] ?_
    exact k_end ⟨true, I, H, ⟨by kernel_rfl, by kernel_rfl, by kernel_rfl, by kernel_rfl, trivial⟩, hs.pk (.c d0 (.c d1 (.c d0 .n)))⟩
   ·rw [cond_true] at H
    refine st 2 [] ?_
    exact k_end ⟨false, I, H, ⟨by kernel_rfl, by kernel_rfl, by kernel_rfl, by kernel_rfl, trivial⟩, hs.pk (.c d0 (.c d1 (.c d0 .n)))⟩
  ·clear H
   rintro ρ h ⟨x30, I, H, hf, hs⟩
   refine k_fits _ hf ?_ rfl
   subst e112
   try dsimp only at H
   cases x30
   ·rw [cond_false] at H
    refine st 6 [false] (k_op (lN (hs.bl d2) 1 3 ?_))
    obtain ⟨hk, bk⟩ := hs.call tk0 .n
    refine k_call H (fun _ m => shutterref05_PutWcc.calls m hk) ?_
    rintro t34 _ h H ⟨I, _, ⟨rfl, rfl⟩, hk⟩
    replace hs := bk hk ct0 rfl
    refine k_op (nS (e := 5) hs .i (tInt .u8) ([t34] : List Int) [.int .u8 t34] 1 (.int .u8 0) (Reps.int (I := (Cl.G .i E.B I)) (k := .u8) (l := [t34])) ?_)
    intro b35 h hs
    replace hs := (hs.f d1)
    obtain ⟨l37, m38, H⟩ := bind_some H
    refine k_op (aO (e := 5) (bytes := 1) hs (hs.sO d1) m38 ?_)
    intro a39 p40 h hs
    refine st 8 [] ?_
    obtain ⟨s48, m55, HR54⟩ := bind_some H
    refine k_loop 0 (fun k' ρ h => ∃ (x42 : List Int) (x47 : Int) (a43 : Option Addr) (p44 : Nat) (n45 : Nat) (I : Gh), shutterref08_Write.l1.m K x0 x1 k' x42 x47 = some s48 ∧ Fits [(1, .int .i64 x1), (2, .pointer (some ⟨b25, 0, none⟩)), (7, .slice a43 n45 p44), (8, .int .i64 x47)] ρ ∧ St E [rO (tInt .u8) .i a43 p44 n45 x42, rR t_api_Order .b a21 p22 x0.Orders.length x0.Orders, rB b25 [.int .i64 x0.Cmd, .bool x0.Wcc.Alarm, .bool x0.Wcc.Unlock, .bool x0.Wcc.Reset, .slice a21 x0.Orders.length p22] 39] I h) (fun ρ h => ∃ (x49 : List Int) (a50 : Option Addr) (p51 : Nat) (n52 : Nat) (I : Gh), Sum.inr x49 = s48 ∧ Fits [(7, .slice a50 n52 p51)] ρ ∧ St E [rO (tInt .u8) .i a50 p51 n52 x49] I h) K ⟨l37, 0, a39, p40, l37.length, I, m55, ⟨by kernel_rfl, by kernel_rfl, by kernel_rfl, by kernel_rfl, trivial⟩, hs.pk (.c d0 (.c d1 (.c d1 .n)))⟩ ?_ rfl ?_
    ·clear m55 H
     rintro k' ρ h ⟨x42, x47, a43, p44, n45, I, H, hf, hs⟩
     cases k' with
     | zero => cases H
     | succ k =>
      rw [shutterref08_Write.l1.m] at H
      refine k_fits _ hf ?_ rfl
      obtain rfl := hs.nO d0
      refine st 5 [] (k_op (lB (hs.bl d2) 4 rfl ?_))
      refine st 1 [] (k_ite H (fun c56 H => ?_) (fun c56 H => ?_))
      ·refine st 8 [true] (k_op (lB (hs.bl d2) 4 rfl ?_))
       obtain ⟨c57, H⟩ := guard_pos H
       refine st 1 [] (k_val (elemPtr a21 (x47.toNat * 8)) (pI (e := 76) (ik := .i64) (hs.sR d1) c57 c56) ?_)
       obtain ⟨y59, g58, q60⟩ := (hs.sR d1).toSl.seg c57 c56
       obtain ⟨a61, p62, n63, rfl, q65⟩ := t_api_Order.open_ q60
       obtain rfl := q65.2
       replace hs := hs.pR q65
       refine k_op (lG g58 ?_)
       obtain ⟨hk, bk⟩ := hs.call tk0 (.c (qB d0) .n)
       refine st 1 [] (k_call H (fun _ m => shutterref07_Wrong.calls m hk) ?_)
       rintro t66 _ h H ⟨I, _, ⟨rfl, rfl⟩, hk⟩
       replace hs := bk hk ct0 rfl
       refine st 3 [] ?_
       obtain ⟨j90, e110, H⟩ := letJ_some H
       refine k_join (fun ρ h => ∃ (x89 : Int) (I : Gh), j90 x89 = some s48 ∧ Fits [(1, .int .i64 x1), (2, .pointer (some ⟨b25, 0, none⟩)), (7, .slice a43 x42.length p44), (8, .int .i64 x47), (9, .int .i64 x89)] ρ ∧ St E [rO (tInt .u8) .i a43 p44 x42.length x42, rR t_api_Order .b a21 p22 x0.Orders.length x0.Orders, rB b25 [.int .i64 x0.Cmd, .bool x0.Wcc.Alarm, .bool x0.Wcc.Unlock, .bool x0.Wcc.Reset, .slice a21 x0.Orders.length p22] 39] I h) ?_ ?_
       ·refine st 3 [] (k_ite H (fun c67 H => ?_) (fun c67 H => ?_))
        ·refine st 2 [] (k_ite H (fun c68 H => ?_) (fun c68 H => ?_))
         ·refine st 3 [] (k_op (lB (hs.bl d3) 4 rfl ?_))
          refine st 1 [] (k_val (elemPtr a21 (x47.toNat * 8)) (pI (e := 76) (ik := .i64) (hs.sR d2) c57 c56) ?_)
          refine k_val (elemPtr a21 (x47.toNat * 8 + 0)) (pF (off := 0) (hs.sR d2) c57 c56) ?_
          obtain ⟨y70, g69, q71⟩ := (hs.sR d2).toSl.seg c57 c56
          obtain ⟨a72, p73, n74, rfl, q76⟩ := t_api_Order.open_ q71
          obtain rfl := q76.2
          replace hs := hs.pR q76
          refine k_op (lC (seg_cell (f := 0) g69 rfl) ?_)
          refine k_ite H (fun c77 H => ?_) (fun c77 H => ?_)
          ·refine st 3 [] (k_op (lB (hs.bl d4) 4 rfl ?_))
           obtain ⟨c78, H⟩ := guard_pos H
           obtain ⟨c79, H⟩ := guard_pos H
           refine st 2 [] (k_val (elemPtr a21 ((w64 (x47 - 1)).toNat * 8)) (pI (e := 76) (ik := .i64) (hs.sR d3) c78 c79) ?_)
           refine k_val (elemPtr a21 ((w64 (x47 - 1)).toNat * 8 + 0)) (pF (off := 0) (hs.sR d3) c78 c79) ?_
           obtain ⟨y81, g80, q82⟩ := (hs.sR d3).toSl.seg c78 c79
           obtain ⟨a83, p84, n85, rfl, q87⟩ := t_api_Order.open_ q82
           obtain rfl := q87.2
           replace hs := hs.pR q87
           refine k_op (lC (seg_cell (f := 0) g80 rfl) ?_)
           refine k_ite H (fun c88 H => ?_) (fun c88 H => ?_)
           ·refine st 6 [true] ?_
            exact k_end ⟨1, I, H, ⟨by kernel_rfl, by kernel_rfl, by kernel_rfl, by kernel_rfl, by kernel_rfl, trivial⟩, hs.pk (.c d3 (.c d3 (.c d3 .n)))⟩
           ·refine st 4 [false] ?_
            exact k_end ⟨t66, I, H, ⟨by kernel_rfl, by kernel_rfl, by kernel_rfl, by kernel_rfl, by kernel_rfl, trivial⟩, hs.pk (.c d3 (.c d3 (.c d3 .n)))⟩
          ·refine st 14 [false] ?_
           exact k_end ⟨t66, I, H, ⟨by kernel_rfl, by kernel_rfl, by kernel_rfl, by kernel_rfl, by kernel_rfl, trivial⟩, hs.pk (.c d2 (.c d2 (.c d2 .n)))⟩
         ·refine st 23 [false] ?_
          exact k_end ⟨t66, I, H, ⟨by kernel_rfl, by kernel_rfl, by kernel_rfl, by kernel_rfl, by kernel_rfl, trivial⟩, hs.pk (.c d1 (.c d1 (.c d1 .n)))⟩
        ·refine st 26 [false] ?_
         exact k_end ⟨t66, I, H, ⟨by kernel_rfl, by kernel_rfl, by kernel_rfl, by kernel_rfl, by kernel_rfl, trivial⟩, hs.pk (.c d1 (.c d1 (.c d1 .n)))⟩
       ·clear H
        rintro ρ h ⟨x89, I, H, hf, hs⟩
        refine k_fits _ hf ?_ rfl
        subst e110
        try dsimp only at H
        refine st 4 [] (k_iteN H (fun c91 H => ?_) (fun c91 H => ?_))
        ·refine st 6 [false] (k_op (lB (hs.bl d2) 4 rfl ?_))
         refine st 1 [] (k_val (elemPtr a21 (x47.toNat * 8)) (pI (e := 76) (ik := .i64) (hs.sR d1) c57 c56) ?_)
         obtain ⟨y93, g92, q94⟩ := (hs.sR d1).toSl.seg c57 c56
         obtain ⟨a95, p96, n97, rfl, q99⟩ := t_api_Order.open_ q94
         obtain rfl := q99.2
         replace hs := hs.pR q99
         refine k_op (lG g92 ?_)
         obtain ⟨hk, bk⟩ := hs.call tk0 (.c (qB d0) .n)
         refine st 1 [] (k_call H (fun _ m => shutterref07_Put.calls m hk) ?_)
         rintro t100 _ h H ⟨I, _, ⟨a101, p102, n103, rfl, rfl⟩, hk⟩
         replace hs := bk hk ct1 rfl
         obtain rfl := hs.nO d0
         replace hs := (hs.f d2)
         obtain ⟨l105, m106, H⟩ := bind_some H
         refine k_op (aO (e := 5) (bytes := 1) hs (hs.sO d1) m106 ?_)
         intro a107 p108 h hs
         refine st 8 [] ?_
         exact k_endL ⟨k, Nat.lt_succ_self _, l105, (w64 (x47 + 1)), a107, p108, l105.length, I, H, ⟨by kernel_rfl, by kernel_rfl, by kernel_rfl, by kernel_rfl, trivial⟩, hs.pk (.c d0 (.c d2 (.c d2 .n)))⟩
        ·refine st 10 [true] ?_
         refine k_retQ (krL ?_)
         obtain rfl := Option.some.inj H
         obtain rfl := Option.some.inj HR54
         exact ⟨_, by kernel_rfl, I, _, ⟨none, 0, 0, rfl, rfl⟩, hs.pk (.f imON .n)⟩
      ·refine st 2 [false] ?_
       refine k_out rfl ?_
       obtain rfl := Option.some.inj H
       exact xE ⟨x42, a43, p44, x42.length, I, rfl, ⟨by kernel_rfl, trivial⟩, hs.pk (.c d0 .n)⟩
    ·rintro ρ h ⟨x49, a50, p51, n52, I, rfl, hf, hs⟩
     have H := HR54
     try dsimp only at H
     refine k_fits _ hf ?_ rfl
     obtain rfl := hs.nO d0
     refine st 5 [] (k_ite H (fun c111 H => ?_) (fun c111 H => ?_))
     ·refine st 8 [true] ?_
      refine k_retQ ?_
      obtain rfl := Option.some.inj H
      exact ⟨_, by kernel_rfl, I, _, ⟨none, 0, 0, rfl, rfl⟩, hs.pk (.f imON .n)⟩
     ·refine st 10 [false] ?_
      refine k_retQ ?_
      obtain rfl := Option.some.inj H
      exact ⟨_, by kernel_rfl, I, _, ⟨a50, p51, x49.length, rfl, rfl⟩, hs.pk (.c d0 .n)⟩
   ·rw [cond_true] at H
    refine st 5 [true] (k_op (lN (hs.bl d2) 1 3 ?_))
    rcases bool_or ((x0.Wcc.Alarm == false) && ((x0.Wcc.Unlock == false) && ((x0.Wcc.Reset == false) && true))) with c32 | c32
    ·replace H := bif_f c32 H
     refine st 1 [] (k_op (owp_run (.bool true) (run_bool (run_neAgg (xs := #[.bool x0.Wcc.Alarm, .bool x0.Wcc.Unlock, .bool x0.Wcc.Reset]) (ys := #[.bool false, .bool false, .bool false]) (by kernel_rfl) (by kernel_rfl) (by kernel_rfl) (eqB_run (b := ((x0.Wcc.Alarm == false) && ((x0.Wcc.Unlock == false) && ((x0.Wcc.Reset == false) && true)))) (by kernel_rfl))) (notB c32)) ?_))
     refine st 14 [true] ?_
     refine k_retQ ?_
     obtain rfl := Option.some.inj H
     exact ⟨_, by kernel_rfl, I, _, ⟨none, 0, 0, rfl, rfl⟩, hs.pk (.f imON .n)⟩
    ·replace H := bif_t c32 H
     refine st 1 [] (k_op (owp_run (.bool false) (run_bool (run_neAgg (xs := #[.bool x0.Wcc.Alarm, .bool x0.Wcc.Unlock, .bool x0.Wcc.Reset]) (ys := #[.bool false, .bool false, .bool false]) (by kernel_rfl) (by kernel_rfl) (by kernel_rfl) (eqB_run (b := ((x0.Wcc.Alarm == false) && ((x0.Wcc.Unlock == false) && ((x0.Wcc.Reset == false) && true)))) (by kernel_rfl))) (notB c32)) ?_))
     refine st 2 [] (k_op (lB (hs.bl d2) 4 rfl ?_))
     refine st 1 [] (k_ite H (fun c33 H => ?_) (fun c33 H => ?_))
     ·refine st 9 [true] ?_
      refine k_retQ ?_
      obtain rfl := Option.some.inj H
      exact ⟨_, by kernel_rfl, I, _, ⟨none, 0, 0, rfl, rfl⟩, hs.pk (.f imON .n)⟩
     ·refine st 11 [false] ?_
      refine k_retQ ?_
      obtain rfl := Option.some.inj H
      exact ⟨_, by kernel_rfl, I, _, ⟨(some ⟨b27, 0, none⟩), 1, 1, rfl, rfl⟩, hs.pk (.c d0 .n)⟩

/-! shutter/shutterref18.Image -/
def shutterref18_Image.l2.m (K : Nat) (x0 : api_Screen) : Nat → Int → (List Int) → Option (Int × (List Int))
  | 0, _, _ => none
  | k + 1, x61, x62 => (if x61 < (x0.Cells.length : Int) then (if 0 ≤ x61 then (bif (at_ x0.Cells x61).Field then (some ((x61, x62))) else ((app x62 [(at_ x0.Cells x61).Char]).bind fun l84 => (shutterref18_Image.l2.m K x0 k (w64 (x61 + 1)) l84))) else none) else (some ((x61, x62))))
def shutterref18_Image.l1.m (K : Nat) (x0 : api_Screen) : Nat → (List api_Order) → Int → Option ((List api_Order))
  | 0, _, _ => none
  | k + 1, x28, x33 => (if x33 < (x0.Cells.length : Int) then (letJ (α := Bool → Option ((List api_Order))) (fun (x48 : Bool) => (bif x48 then (if 0 ≤ x33 then ((app x28 ([(⟨2, [], ((at_ x0.Cells x33).Attr), 0, 0⟩ : api_Order)])).bind fun l56 => (shutterref18_Image.l1.m K x0 k l56 (w64 (x33 + 1)))) else none) else ((shutterref18_Image.l2.m K x0 K x33 []).bind fun (x68, x69) => ((app x28 [(⟨1, x69, (⟨false, false, 0, false⟩ : api_Attr), 0, 0⟩ : api_Order)]).bind fun l91 => (shutterref18_Image.l1.m K x0 k l91 x68))))) fun (j49 : Bool → Option ((List api_Order))) => (if 0 ≤ x33 then (bif (at_ x0.Cells x33).Field then (j49 true) else (j49 false)) else none)) else (some (x28)))
def shutterref18_Image.m (K : Nat) (x0 : api_Screen) : Option (List api_Order) :=
  ((shutterref18_Image.l1.m K x0 K ([(⟨3, [], (⟨false, false, 0, false⟩ : api_Attr), 0, 0⟩ : api_Order)]) 0).bind fun x35 => (if x0.Cursor > 0 then ((app x35 ([(⟨3, [], (⟨false, false, 0, false⟩ : api_Attr), x0.Cursor, 0⟩ : api_Order)])).bind fun l100 => ((app l100 ([(⟨4, [], (⟨false, false, 0, false⟩ : api_Attr), 0, 0⟩ : api_Order)])).bind fun l107 => (some l107))) else ((app x35 ([(⟨4, [], (⟨false, false, 0, false⟩ : api_Attr), 0, 0⟩ : api_Order)])).bind fun l114 => (some l114))))

theorem shutterref18_Image.calls {B I : Gh} {h : Heap} {K : Nat} {x0 : api_Screen} {a21 : Option Addr} {p22 : Nat} {n23 : Nat} {r : (List api_Order)} (H : shutterref18_Image.m K x0 = some r)  :
    Fc Tryz.prog 10 #[.agg #[.int .i64 x0.Rows, .int .i64 x0.Cols, .slice a21 n23 p22, .int .i64 x0.Cursor, .bool x0.Locked, .bool x0.Insert]] [rR t_api_Cell .b a21 p22 n23 x0.Cells] B I h (fun v L => ∃ (a119 : Option Addr) (p120 : Nat) (n121 : Nat), v = .slice a119 n121 p120 ∧ L = [rO t_api_Order .i a119 p120 n121 r]) := by
 refine fc_of fun E hs => ?_
 unfold shutterref18_Image.m at H
 obtain rfl := hs.nR d0
 refine fn_of (args := [.agg #[.int .i64 x0.Rows, .int .i64 x0.Cols, .slice a21 x0.Cells.length p22, .int .i64 x0.Cursor, .bool x0.Locked, .bool x0.Insert]]) (rs := [.tmp 2]) (N := 74) Tryz.func10 rfl rfl rfl rfl ?_
 refine st 2 [] (k_op (nB hs [.int .i64 x0.Rows, .int .i64 x0.Cols, .slice a21 x0.Cells.length p22, .int .i64 x0.Cursor, .bool x0.Locked, .bool x0.Insert] ?_))
 intro b25 h hs
 refine st 5 [] (k_op (nS (e := 76) hs .i t_api_Order ([(⟨3, [], (⟨false, false, 0, false⟩ : api_Attr), 0, 0⟩ : api_Order)] : List api_Order) [.int .i64 3, .slice none 0 0, .bool false, .bool false, .int .i64 0, .bool false, .int .i64 0, .int .u8 0] 8 (.agg #[.int .i64 0, .slice none 0 0, .bool false, .bool false, .int .i64 0, .bool false, .int .i64 0, .int .u8 0]) (Reps.cons (T := t_api_Order) (c := [.int .i64 3, .slice none 0 0, .bool false, .bool false, .int .i64 0, .bool false, .int .i64 0, .int .u8 0]) (x := (⟨3, [], (⟨false, false, 0, false⟩ : api_Attr), 0, 0⟩ : api_Order)) ⟨none, 0, 0, rfl, ⟨rd_nil _ _ _, rfl⟩⟩ (.nil : Reps t_api_Order (Cl.G .i E.B I) h [] [])) ?_))
 intro b26 h hs
 refine st 8 [] ?_
 obtain ⟨s34, m41, HR40⟩ := bind_some H
 refine k_loop 0 (fun k' ρ h => ∃ (x28 : List api_Order) (x33 : Int) (a29 : Option Addr) (p30 : Nat) (n31 : Nat) (I : Gh), shutterref18_Image.l1.m K x0 k' x28 x33 = some s34 ∧ Fits [(1, .pointer (some ⟨b25, 0, none⟩)), (3, .slice a29 n31 p30), (4, .int .i64 x33)] ρ ∧ St E [rO t_api_Order .i a29 p30 n31 x28, rR t_api_Cell .b a21 p22 x0.Cells.length x0.Cells, rB b25 [.int .i64 x0.Rows, .int .i64 x0.Cols, .slice a21 x0.Cells.length p22, .int .i64 x0.Cursor, .bool x0.Locked, .bool x0.Insert] 24] I h) (fun ρ h => ∃ (x35 : List api_Order) (a36 : Option Addr) (p37 : Nat) (n38 : Nat) (I : Gh), x35 = s34 ∧ Fits [(1, .pointer (some ⟨b25, 0, none⟩)), (3, .slice a36 n38 p37)] ρ ∧ St E [rO t_api_Order .i a36 p37 n38 x35, rR t_api_Cell .b a21 p22 x0.Cells.length x0.Cells, rB b25 [.int .i64 x0.Rows, .int .i64 x0.Cols, .slice a21 x0.Cells.length p22, .int .i64 x0.Cursor, .bool x0.Locked, .bool x0.Insert] 24] I h) K ⟨[(⟨3, [], (⟨false, false, 0, false⟩ : api_Attr), 0, 0⟩ : api_Order)], 0, (some ⟨b26, 0, none⟩), 1, 1, I, m41, ⟨by kernel_rfl, by kernel_rfl, by kernel_rfl, trivial⟩, hs.pk (.c d0 (.c d1 (.c d0 .n)))⟩ ?_ rfl ?_
 ·clear HR40 m41 H
  rintro k' ρ h ⟨x28, x33, a29, p30, n31, I, H, hf, hs⟩
  cases k' with
  | zero => cases H
  | succ k =>
   rw [shutterref18_Image.l1.m] at H
   refine k_fits _ hf ?_ rfl
   obtain rfl := hs.nO d0
   refine st 5 [] (k_op (lB (hs.bl d2) 2 rfl ?_))
   refine st 1 [] (k_ite H (fun c42 H => ?_) (fun c42 H => ?_))
   ·refine st 6 [true] ?_
    obtain ⟨j49, e96, H⟩ := letJ_some H
    refine k_join (fun ρ h => ∃ (x48 : Bool) (I : Gh), j49 x48 = some s34 ∧ Fits [(1, .pointer (some ⟨b25, 0, none⟩)), (3, .slice a29 x28.length p30), (4, .int .i64 x33), (18, .bool x48)] ρ ∧ St E [rO t_api_Order .i a29 p30 x28.length x28, rR t_api_Cell .b a21 p22 x0.Cells.length x0.Cells, rB b25 [.int .i64 x0.Rows, .int .i64 x0.Cols, .slice a21 x0.Cells.length p22, .int .i64 x0.Cursor, .bool x0.Locked, .bool x0.Insert] 24] I h) ?_ ?_
    ·refine st 2 [] (k_op (lB (hs.bl d2) 2 rfl ?_))
     obtain ⟨c43, H⟩ := guard_pos H
     refine st 1 [] (k_val (elemPtr a21 (x33.toNat * 6)) (pI (e := 57) (ik := .i64) (hs.sR d1) c43 c42) ?_)
     refine k_val (elemPtr a21 (x33.toNat * 6 + 0)) (pF (off := 0) (hs.sR d1) c43 c42) ?_
     obtain ⟨y45, g44, q46⟩ := (hs.sR d1).toSl.seg c43 c42
     obtain rfl := t_api_Cell.open_ q46
     refine k_op (lC (seg_cell (f := 0) g44 rfl) ?_)
     refine k_spl H (fun c47 H => ?_) (fun c47 H => ?_)
     ·refine st 1 [] ?_
      exact k_end ⟨true, I, H, ⟨by kernel_rfl, by kernel_rfl, by kernel_rfl, by kernel_rfl, trivial⟩, hs.pk (.c d0 (.c d0 (.c d0 .n)))⟩
     ·refine st 1 [] ?_
      exact k_end ⟨false, I, H, ⟨by kernel_rfl, by kernel_rfl, by kernel_rfl, by kernel_rfl, trivial⟩, hs.pk (.c d0 (.c d0 (.c d0 .n)))⟩
    ·clear H
     rintro ρ h ⟨x48, I, H, hf, hs⟩
     refine k_fits _ hf ?_ rfl
     subst e96
     try dsimp only at H
     cases x48
     ·rw [cond_false] at H
      refine st 8 [false] ?_
      obtain ⟨s67, m75, HR74⟩ := bind_some H
      refine k_loop 2 (fun k' ρ h => ∃ (x61 : Int) (x62 : List Int) (a63 : Option Addr) (p64 : Nat) (n65 : Nat) (I : Gh), shutterref18_Image.l2.m K x0 k' x61 x62 = some s67 ∧ Fits [(1, .pointer (some ⟨b25, 0, none⟩)), (3, .slice a29 x28.length p30), (4, .int .i64 x61), (5, .slice a63 n65 p64)] ρ ∧ St E [rO t_api_Order .i a29 p30 x28.length x28, rO (tInt .u8) .i a63 p64 n65 x62, rR t_api_Cell .b a21 p22 x0.Cells.length x0.Cells, rB b25 [.int .i64 x0.Rows, .int .i64 x0.Cols, .slice a21 x0.Cells.length p22, .int .i64 x0.Cursor, .bool x0.Locked, .bool x0.Insert] 24] I h) (fun ρ h => ∃ (x68 : Int) (x69 : List Int) (a70 : Option Addr) (p71 : Nat) (n72 : Nat) (I : Gh), (x68, x69) = s67 ∧ Fits [(1, .pointer (some ⟨b25, 0, none⟩)), (3, .slice a29 x28.length p30), (4, .int .i64 x68), (5, .slice a70 n72 p71)] ρ ∧ St E [rO t_api_Order .i a29 p30 x28.length x28, rO (tInt .u8) .i a70 p71 n72 x69, rR t_api_Cell .b a21 p22 x0.Cells.length x0.Cells, rB b25 [.int .i64 x0.Rows, .int .i64 x0.Cols, .slice a21 x0.Cells.length p22, .int .i64 x0.Cursor, .bool x0.Locked, .bool x0.Insert] 24] I h) K ⟨x33, [], none, 0, 0, I, m75, ⟨by kernel_rfl, by kernel_rfl, by kernel_rfl, by kernel_rfl, trivial⟩, hs.pk (.c d0 (.f imON (.c d0 (.c d0 .n))))⟩ ?_ rfl ?_
      ·clear HR74 m75 H
       rintro k' ρ h ⟨x61, x62, a63, p64, n65, I, H, hf, hs⟩
       cases k' with
       | zero => cases H
       | succ k =>
        rw [shutterref18_Image.l2.m] at H
        refine k_fits _ hf ?_ rfl
        obtain rfl := hs.nO d1
        refine st 5 [] (k_op (lB (hs.bl d3) 2 rfl ?_))
        refine st 1 [] (k_ite H (fun c76 H => ?_) (fun c76 H => ?_))
        ·refine st 2 [] (k_op (lB (hs.bl d3) 2 rfl ?_))
         obtain ⟨c77, H⟩ := guard_pos H
         refine st 1 [] (k_val (elemPtr a21 (x61.toNat * 6)) (pI (e := 57) (ik := .i64) (hs.sR d2) c77 c76) ?_)
         refine k_val (elemPtr a21 (x61.toNat * 6 + 0)) (pF (off := 0) (hs.sR d2) c77 c76) ?_
         obtain ⟨y79, g78, q80⟩ := (hs.sR d2).toSl.seg c77 c76
         obtain rfl := t_api_Cell.open_ q80
         refine k_op (lC (seg_cell (f := 0) g78 rfl) ?_)
         refine k_spl H (fun c81 H => ?_) (fun c81 H => ?_)
         ·refine st 4 [false] ?_
          refine k_out rfl ?_
          obtain rfl := Option.some.inj H
          exact xE ⟨x61, x62, a63, p64, x62.length, I, rfl, ⟨by kernel_rfl, by kernel_rfl, by kernel_rfl, by kernel_rfl, trivial⟩, hs.pk (.c d0 (.c d0 (.c d0 (.c d0 .n))))⟩
         ·refine st 10 [true] (k_op (lB (hs.bl d3) 2 rfl ?_))
          refine st 1 [] (k_val (elemPtr a21 (x61.toNat * 6)) (pI (e := 57) (ik := .i64) (hs.sR d2) c77 c76) ?_)
          refine k_val (elemPtr a21 (x61.toNat * 6 + 5)) (pF (off := 5) (hs.sR d2) c77 c76) ?_
          refine k_op (lC (seg_cell (f := 5) g78 rfl) ?_)
          refine k_op (nS (e := 5) hs .i (tInt .u8) ([(at_ x0.Cells x61).Char] : List Int) [.int .u8 ((at_ x0.Cells x61).Char)] 1 (.int .u8 0) (Reps.int (I := (Cl.G .i E.B I)) (k := .u8) (l := [(at_ x0.Cells x61).Char])) ?_)
          intro b82 h hs
          replace hs := (hs.f d2)
          obtain ⟨l84, m85, H⟩ := bind_some H
          refine k_op (aO (e := 5) (bytes := 1) hs (hs.sO d1) m85 ?_)
          intro a86 p87 h hs
          refine st 8 [] ?_
          exact k_endL ⟨k, Nat.lt_succ_self _, (w64 (x61 + 1)), l84, a86, p87, l84.length, I, H, ⟨by kernel_rfl, by kernel_rfl, by kernel_rfl, by kernel_rfl, trivial⟩, hs.pk (.c d2 (.c d0 (.c d1 (.c d1 .n))))⟩
        ·refine st 11 [false] ?_
         refine k_out rfl ?_
         obtain rfl := Option.some.inj H
         exact xE ⟨x61, x62, a63, p64, x62.length, I, rfl, ⟨by kernel_rfl, by kernel_rfl, by kernel_rfl, by kernel_rfl, trivial⟩, hs.pk (.c d0 (.c d0 (.c d0 (.c d0 .n))))⟩
      ·rintro ρ h ⟨x68, x69, a70, p71, n72, I, rfl, hf, hs⟩
       have H := HR74
       try dsimp only at H
       refine k_fits _ hf ?_ rfl
       obtain rfl := hs.nO d1
       obtain ⟨I, hs⟩ := (hs.f d1).fO
       refine st 4 [] (k_op (nS (e := 76) hs .i t_api_Order ([(⟨1, x69, (⟨false, false, 0, false⟩ : api_Attr), 0, 0⟩ : api_Order)] : List api_Order) [.int .i64 1, .slice a70 x69.length p71, .bool false, .bool false, .int .i64 0, .bool false, .int .i64 0, .int .u8 0] 8 (.agg #[.int .i64 0, .slice none 0 0, .bool false, .bool false, .int .i64 0, .bool false, .int .i64 0, .int .u8 0]) (Reps.cons (T := t_api_Order) (c := [.int .i64 1, .slice a70 x69.length p71, .bool false, .bool false, .int .i64 0, .bool false, .int .i64 0, .int .u8 0]) (x := (⟨1, x69, (⟨false, false, 0, false⟩ : api_Attr), 0, 0⟩ : api_Order)) ⟨_, _, _, rfl, (hs.g d0)⟩ (.nil : Reps t_api_Order (Cl.G .i E.B I) h [] [])) ?_))
       intro b89 h hs
       replace hs := (hs.f d2)
       obtain ⟨l91, m92, H⟩ := bind_some H
       refine k_op (aO (e := 76) (bytes := 72) hs (hs.sO d1) m92 ?_)
       intro a93 p94 h hs
       refine st 3 [] ?_
       exact k_endL ⟨k, Nat.lt_succ_self _, l91, x68, a93, p94, l91.length, I, H, ⟨by kernel_rfl, by kernel_rfl, by kernel_rfl, trivial⟩, hs.pk (.c d0 (.c d2 (.c d2 .n)))⟩
     ·rw [cond_true] at H
      refine st 5 [true] (k_op (lB (hs.bl d2) 2 rfl ?_))
      obtain ⟨c50, H⟩ := guard_pos H
      refine st 1 [] (k_val (elemPtr a21 (x33.toNat * 6)) (pI (e := 57) (ik := .i64) (hs.sR d1) c50 c42) ?_)
      refine k_val (elemPtr a21 (x33.toNat * 6 + 1)) (pF (off := 1) (hs.sR d1) c50 c42) ?_
      obtain ⟨y52, g51, q53⟩ := (hs.sR d1).toSl.seg c50 c42
      obtain rfl := t_api_Cell.open_ q53
      refine k_op (lG (seg_sub (f := 1) (k := 4) g51 rfl) ?_)
      refine st 1 [] (k_op (nS (e := 76) hs .i t_api_Order ([(⟨2, [], ((at_ x0.Cells x33).Attr), 0, 0⟩ : api_Order)] : List api_Order) [.int .i64 2, .slice none 0 0, .bool (((at_ x0.Cells x33).Attr).Protected), .bool (((at_ x0.Cells x33).Attr).Numeric), .int .i64 (((at_ x0.Cells x33).Attr).Show), .bool (((at_ x0.Cells x33).Attr).Modified), .int .i64 0, .int .u8 0] 8 (.agg #[.int .i64 0, .slice none 0 0, .bool false, .bool false, .int .i64 0, .bool false, .int .i64 0, .int .u8 0]) (Reps.cons (T := t_api_Order) (c := [.int .i64 2, .slice none 0 0, .bool (((at_ x0.Cells x33).Attr).Protected), .bool (((at_ x0.Cells x33).Attr).Numeric), .int .i64 (((at_ x0.Cells x33).Attr).Show), .bool (((at_ x0.Cells x33).Attr).Modified), .int .i64 0, .int .u8 0]) (x := (⟨2, [], ((at_ x0.Cells x33).Attr), 0, 0⟩ : api_Order)) ⟨none, 0, 0, rfl, ⟨rd_nil _ _ _, rfl⟩⟩ (.nil : Reps t_api_Order (Cl.G .i E.B I) h [] [])) ?_))
      intro b54 h hs
      replace hs := (hs.f d1)
      obtain ⟨l56, m57, H⟩ := bind_some H
      refine k_op (aO (e := 76) (bytes := 72) hs (hs.sO d1) m57 ?_)
      intro a58 p59 h hs
      refine st 9 [] ?_
      exact k_endL ⟨k, Nat.lt_succ_self _, l56, (w64 (x33 + 1)), a58, p59, l56.length, I, H, ⟨by kernel_rfl, by kernel_rfl, by kernel_rfl, trivial⟩, hs.pk (.c d0 (.c d1 (.c d1 .n)))⟩
   ·refine st 2 [false] ?_
    refine k_out rfl ?_
    obtain rfl := Option.some.inj H
    exact xE ⟨x28, a29, p30, x28.length, I, rfl, ⟨by kernel_rfl, by kernel_rfl, trivial⟩, hs.pk (.c d0 (.c d0 (.c d0 .n)))⟩
 ·rintro ρ h ⟨x35, a36, p37, n38, I, rfl, hf, hs⟩
  have H := HR40
  try dsimp only at H
  refine k_fits _ hf ?_ rfl
  obtain rfl := hs.nO d0
  refine st 4 [] (k_op (lB (hs.bl d2) 3 rfl ?_))
  refine k_ite H (fun c97 H => ?_) (fun c97 H => ?_)
  ·refine st 5 [true] (k_op (lB (hs.bl d2) 3 rfl ?_))
   refine st 1 [] (k_op (nS (e := 76) hs .i t_api_Order ([(⟨3, [], (⟨false, false, 0, false⟩ : api_Attr), x0.Cursor, 0⟩ : api_Order)] : List api_Order) [.int .i64 3, .slice none 0 0, .bool false, .bool false, .int .i64 0, .bool false, .int .i64 x0.Cursor, .int .u8 0] 8 (.agg #[.int .i64 0, .slice none 0 0, .bool false, .bool false, .int .i64 0, .bool false, .int .i64 0, .int .u8 0]) (Reps.cons (T := t_api_Order) (c := [.int .i64 3, .slice none 0 0, .bool false, .bool false, .int .i64 0, .bool false, .int .i64 x0.Cursor, .int .u8 0]) (x := (⟨3, [], (⟨false, false, 0, false⟩ : api_Attr), x0.Cursor, 0⟩ : api_Order)) ⟨none, 0, 0, rfl, ⟨rd_nil _ _ _, rfl⟩⟩ (.nil : Reps t_api_Order (Cl.G .i E.B I) h [] [])) ?_))
   intro b98 h hs
   replace hs := (hs.f d1)
   obtain ⟨l100, m101, H⟩ := bind_some H
   refine k_op (aO (e := 76) (bytes := 72) hs (hs.sO d1) m101 ?_)
   intro a102 p103 h hs
   refine st 6 [] (k_op (nS (e := 76) hs .i t_api_Order ([(⟨4, [], (⟨false, false, 0, false⟩ : api_Attr), 0, 0⟩ : api_Order)] : List api_Order) [.int .i64 4, .slice none 0 0, .bool false, .bool false, .int .i64 0, .bool false, .int .i64 0, .int .u8 0] 8 (.agg #[.int .i64 0, .slice none 0 0, .bool false, .bool false, .int .i64 0, .bool false, .int .i64 0, .int .u8 0]) (Reps.cons (T := t_api_Order) (c := [.int .i64 4, .slice none 0 0, .bool false, .bool false, .int .i64 0, .bool false, .int .i64 0, .int .u8 0]) (x := (⟨4, [], (⟨false, false, 0, false⟩ : api_Attr), 0, 0⟩ : api_Order)) ⟨none, 0, 0, rfl, ⟨rd_nil _ _ _, rfl⟩⟩ (.nil : Reps t_api_Order (Cl.G .i E.B I) h [] [])) ?_))
   intro b105 h hs
   replace hs := (hs.f d1)
   obtain ⟨l107, m108, H⟩ := bind_some H
   refine k_op (aO (e := 76) (bytes := 72) hs (hs.sO d1) m108 ?_)
   intro a109 p110 h hs
   refine st 2 [] ?_
   refine k_retQ ?_
   obtain rfl := Option.some.inj H
   exact ⟨_, by kernel_rfl, I, _, ⟨a109, p110, l107.length, rfl, rfl⟩, hs.pk (.c d0 .n)⟩
  ·refine st 7 [false] (k_op (nS (e := 76) hs .i t_api_Order ([(⟨4, [], (⟨false, false, 0, false⟩ : api_Attr), 0, 0⟩ : api_Order)] : List api_Order) [.int .i64 4, .slice none 0 0, .bool false, .bool false, .int .i64 0, .bool false, .int .i64 0, .int .u8 0] 8 (.agg #[.int .i64 0, .slice none 0 0, .bool false, .bool false, .int .i64 0, .bool false, .int .i64 0, .int .u8 0]) (Reps.cons (T := t_api_Order) (c := [.int .i64 4, .slice none 0 0, .bool false, .bool false, .int .i64 0, .bool false, .int .i64 0, .int .u8 0]) (x := (⟨4, [], (⟨false, false, 0, false⟩ : api_Attr), 0, 0⟩ : api_Order)) ⟨none, 0, 0, rfl, ⟨rd_nil _ _ _, rfl⟩⟩ (.nil : Reps t_api_Order (Cl.G .i E.B I) h [] [])) ?_))
   intro b112 h hs
   replace hs := (hs.f d1)
   obtain ⟨l114, m115, H⟩ := bind_some H
   refine k_op (aO (e := 76) (bytes := 72) hs (hs.sO d1) m115 ?_)
   intro a116 p117 h hs
   refine st 2 [] ?_
   refine k_retQ ?_
   obtain rfl := Option.some.inj H
   exact ⟨_, by kernel_rfl, I, _, ⟨a116, p117, l114.length, rfl, rfl⟩, hs.pk (.c d0 .n)⟩

/-! shutter/shutterref01.Same -/
def shutterref01_Same.l1.m (K : Nat) (x0 : (List Int)) (x1 : (List Int)) : Nat → Int → Option (Bool ⊕ (Unit))
  | 0, _ => none
  | k + 1, x32 => (if x32 < (x0.length : Int) then (if 0 ≤ x32 then (if x32 < (x1.length : Int) then (if (at_ x0 x32) = (at_ x1 x32) then (shutterref01_Same.l1.m K x0 x1 k (w64 (x32 + 1))) else (some (Sum.inl false))) else none) else none) else (some (Sum.inr ())))
def shutterref01_Same.m (K : Nat) (x0 : (List Int)) (x1 : (List Int)) : Option Bool :=
  (if (x0.length : Int) = (x1.length : Int) then ((shutterref01_Same.l1.m K x0 x1 K 0).bind fun s33 => match s33 with | .inl q => (some q) | .inr _ => (some true)) else (some false))

theorem shutterref01_Same.calls {G : Gh} {K : Nat} {x0 : (List Int)} {x1 : (List Int)} {a21 : Option Addr} {p22 : Nat} {n23 : Nat} {a25 : Option Addr} {p26 : Nat} {n27 : Nat} {h : Heap} {r : Bool} (H : shutterref01_Same.m K x0 x1 = some r)  (s29 : Sn (tInt .u8) G h a21 p22 n23 x0) (s30 : Sn (tInt .u8) G h a25 p26 n27 x1) :
    Ret Tryz.prog 11 #[.slice a21 n23 p22, .slice a25 n27 p26] h (fun v h' => .bool r = v ∧ h' = h) := by
 unfold shutterref01_Same.m at H
 obtain rfl := s29.len.symm
 obtain rfl := s30.len.symm
 refine fn_of (args := [.slice a21 x0.length p22, .slice a25 x1.length p26]) (rs := [.tmp 4]) (N := 26) Tryz.func11 rfl rfl rfl rfl ?_
 refine st 11 [] (k_iteN H (fun c31 H => ?_) (fun c31 H => ?_))
 ·refine st 9 [false] ?_
  obtain ⟨s33, m35, HR34⟩ := bind_some H
  refine k_loop 0 (fun k' ρ h1 => ∃ (x32 : Int), shutterref01_Same.l1.m K x0 x1 k' x32 = some s33 ∧ Fits [(0, .slice a21 x0.length p22), (1, .slice a25 x1.length p26), (5, .int .i64 x32)] ρ ∧ h = h1) (fun ρ h1 => Sum.inr () = s33 ∧ Fits [] ρ ∧ h = h1) K ⟨0, m35, ⟨by kernel_rfl, by kernel_rfl, by kernel_rfl, trivial⟩, rfl⟩ ?_ rfl ?_
  ·clear m35 H
   rintro k' ρ h1 ⟨x32, H, hf, rfl⟩
   cases k' with
   | zero => cases H
   | succ k =>
    rw [shutterref01_Same.l1.m] at H
    refine k_fits _ hf ?_ rfl
    refine st 6 [] (k_ite H (fun c36 H => ?_) (fun c36 H => ?_))
    ·refine st 6 [true] ?_
     refine k_regP 9 ?_
     obtain ⟨c37, H⟩ := guard_pos H
     refine aRun [0, 1] 7 Keep.refl ?_
     refine aP 2 (elemPtr a21 (x32.toNat * 1)) rfl (pI (e := 5) (ik := .i64) s29 c37 c36) Keep.refl ?_
     refine aL 3 rfl Keep.refl (s29.cell1 c37 c36) (fun _ _ x => x) ?_
     obtain ⟨c38, H⟩ := guard_pos H
     refine aRun [4, 5] 3 Keep.refl ?_
     refine aP 6 (elemPtr a25 (x32.toNat * 1)) rfl (pI (e := 5) (ik := .i64) s30 c37 c38) Keep.refl ?_
     refine aL 7 rfl Keep.refl (s30.cell1 c37 c38) (fun _ _ x => x) ?_
     by_cases c39 : (at_ x0 x32) = (at_ x1 x32)
     ·rw [if_pos c39] at H
      refine aP 8 (.bool false) rfl (pr_bool (by kernel_rfl) (neF c39)) Keep.refl ?_
      refine aEnd ?_
      refine st 8 [false] ?_
      exact k_endL ⟨k, Nat.lt_succ_self _, (w64 (x32 + 1)), H, ⟨by kernel_rfl, by kernel_rfl, by kernel_rfl, trivial⟩, rfl⟩
     ·rw [if_neg c39] at H
      refine aP 8 (.bool true) rfl (pr_bool (by kernel_rfl) (neT c39)) Keep.refl ?_
      refine aEnd ?_
      refine st 5 [true] ?_
      refine k_retQ (krL ?_)
      obtain rfl := Option.some.inj H
      obtain rfl := Option.some.inj HR34
      exact ⟨_, by kernel_rfl, rfl, rfl⟩
    ·refine st 2 [false] ?_
     refine k_out rfl ?_
     obtain rfl := Option.some.inj H
     exact xE ⟨rfl, trivial, rfl⟩
  ·rintro ρ h1 ⟨rfl, hf, rfl⟩
   have H := HR34
   try dsimp only at H
   refine k_fits _ hf ?_ rfl
   refine st 4 [] ?_
   refine k_retQ ?_
   obtain rfl := Option.some.inj H
   exact ⟨_, by kernel_rfl, rfl, rfl⟩
 ·refine st 6 [true] ?_
  refine k_retQ ?_
  obtain rfl := Option.some.inj H
  exact ⟨_, by kernel_rfl, rfl, rfl⟩

/-! shutter/shutterref05.Bare -/
def shutterref05_Bare.m (x0 : Int) : Option Bool :=
  (if x0 = 109 then (some true) else (if x0 = 108 then (some true) else (if x0 = 110 then (some true) else (some (x0 == 107)))))

theorem shutterref05_Bare.calls {x0 : Int} {h : Heap} {r : Bool} (H : shutterref05_Bare.m x0 = some r)   :
    Ret Tryz.prog 20 #[.int .u8 x0] h (fun v h' => .bool r = v ∧ h' = h) := by
 unfold shutterref05_Bare.m at H
 refine fn_of (args := [.int .u8 x0]) (rs := [.tmp 2]) (N := 17) Tryz.func20 rfl rfl rfl rfl ?_
 refine st 7 [] (k_ite H (fun c21 H => ?_) (fun c21 H => ?_))
 ·refine st 14 [] ?_
  refine k_retQ ?_
  obtain rfl := Option.some.inj H
  exact ⟨_, by kernel_rfl, rfl, rfl⟩
 ·refine st 2 [] (k_ite H (fun c22 H => ?_) (fun c22 H => ?_))
  ·refine st 11 [] ?_
   refine k_retQ ?_
   obtain rfl := Option.some.inj H
   exact ⟨_, by kernel_rfl, rfl, rfl⟩
  ·refine st 3 [] (k_ite H (fun c23 H => ?_) (fun c23 H => ?_))
   ·refine st 7 [] ?_
    refine k_retQ ?_
    obtain rfl := Option.some.inj H
    exact ⟨_, by kernel_rfl, rfl, rfl⟩
   ·refine st 7 [] ?_
    refine k_retQ ?_
    obtain rfl := Option.some.inj H
    exact ⟨_, by kernel_rfl, rfl, rfl⟩

/-! shutter/shutterref05.Aid -/
def shutterref05_Aid.m (x0 : Int) : Option Bool :=
  ((shutterref05_Bare.m x0).bind fun t21 => bif t21 then (some true) else (if x0 = 125 then (some true) else (if x0 ≥ 241 then (if x0 ≤ 249 then (some true) else (if x0 ≥ 122 then (some (decide (x0 ≤ 124))) else (some false))) else (if x0 ≥ 122 then (some (decide (x0 ≤ 124))) else (some false)))))

theorem shutterref05_Aid.calls {x0 : Int} {h : Heap} {r : Bool} (H : shutterref05_Aid.m x0 = some r)   :
    Ret Tryz.prog 13 #[.int .u8 x0] h (fun v h' => .bool r = v ∧ h' = h) := by
 unfold shutterref05_Aid.m at H
 refine fn_of (args := [.int .u8 x0]) (rs := [.tmp 2]) (N := 25) Tryz.func13 rfl rfl rfl rfl ?_
 refine st 7 [] (k_call H (fun _ m => shutterref05_Bare.calls m) ?_)
 rintro t21 _ _ H ⟨rfl, rfl⟩
 cases t21
 ·rw [cond_false] at H
  refine st 2 [] (k_ite H (fun c22 H => ?_) (fun c22 H => ?_))
  ·refine st 19 [] ?_
   refine k_retQ ?_
   obtain rfl := Option.some.inj H
   exact ⟨_, by kernel_rfl, rfl, rfl⟩
  ·refine st 3 [] (k_ite H (fun c23 H => ?_) (fun c23 H => ?_))
   ·refine st 2 [] (k_ite H (fun c24 H => ?_) (fun c24 H => ?_))
    ·refine st 12 [] ?_
     refine k_retQ ?_
     obtain rfl := Option.some.inj H
     exact ⟨_, by kernel_rfl, rfl, rfl⟩
    ·refine st 4 [] (k_ite H (fun c25 H => ?_) (fun c25 H => ?_))
     ·refine st 7 [] ?_
      refine k_retQ ?_
      obtain rfl := Option.some.inj H
      exact ⟨_, by kernel_rfl, rfl, rfl⟩
     ·refine st 7 [] ?_
      refine k_retQ ?_
      obtain rfl := Option.some.inj H
      exact ⟨_, by kernel_rfl, rfl, rfl⟩
   ·refine st 7 [] (k_ite H (fun c26 H => ?_) (fun c26 H => ?_))
    ·refine st 7 [] ?_
     refine k_retQ ?_
     obtain rfl := Option.some.inj H
     exact ⟨_, by kernel_rfl, rfl, rfl⟩
    ·refine st 7 [] ?_
     refine k_retQ ?_
     obtain rfl := Option.some.inj H
     exact ⟨_, by kernel_rfl, rfl, rfl⟩
 ·rw [cond_true] at H
  refine st 22 [] ?_
  refine k_retQ ?_
  obtain rfl := Option.some.inj H
  exact ⟨_, by kernel_rfl, rfl, rfl⟩

/-! shutter/shutterref09.Write -/
def shutterref09_Write.l1.m (K : Nat) (x0 : api_In) (x1 : Int) : Nat → (List Int) → Int → Option ((List Int))
  | 0, _, _ => none
  | k + 1, x39, x44 => (if x44 < (x0.Fields.length : Int) then (letJ (α := (List Int) → Option ((List Int))) (fun (x93 : List Int) => (if 0 ≤ x44 then ((app x93 ((at_ x0.Fields x44).Text)).bind fun l108 => (shutterref09_Write.l1.m K x0 x1 k l108 (w64 (x44 + 1)))) else none)) fun (j98 : (List Int) → Option ((List Int))) => (letJ (α := Bool → Option ((List Int))) (fun (x64 : Bool) => (bif x64 then ((app x39 [17]).bind fun l68 => (if 0 ≤ x44 then ((shutterref04_Put.m ((at_ x0.Fields x44).Addr) x1).bind fun t82 => ((app l68 t82).bind fun l87 => (j98 l87))) else none)) else (j98 x39))) fun (j65 : Bool → Option ((List Int))) => (if 0 ≤ x44 then (if (at_ x0.Fields x44).Addr ≥ 0 then (j65 true) else (j65 false)) else none))) else (some (x39)))
def shutterref09_Write.m (K : Nat) (x0 : api_In) (x1 : Int) : Option (List Int) :=
  ((shutterref05_Bare.m x0.Aid).bind fun t28 => bif t28 then (some [x0.Aid]) else ((shutterref04_Put.m x0.Cursor x1).bind fun t29 => ((app [x0.Aid] t29).bind fun l34 => ((shutterref09_Write.l1.m K x0 x1 K l34 0).bind fun x46 => (some x46)))))

theorem shutterref09_Write.calls {B I : Gh} {h : Heap} {K : Nat} {x0 : api_In} {x1 : Int} {a21 : Option Addr} {p22 : Nat} {n23 : Nat} {r : (List Int)} (H : shutterref09_Write.m K x0 x1 = some r)  :
    Fc Tryz.prog 14 #[.agg #[.int .u8 x0.Aid, .int .i64 x0.Cursor, .slice a21 n23 p22], .int .i64 x1] [rR t_api_Entry .b a21 p22 n23 x0.Fields] B I h (fun v L => ∃ (a114 : Option Addr) (p115 : Nat) (n116 : Nat), v = .slice a114 n116 p115 ∧ L = [rO (tInt .u8) .i a114 p115 n116 r]) := by
 refine fc_of fun E hs => ?_
 unfold shutterref09_Write.m at H
 obtain rfl := hs.nR d0
 refine fn_of (args := [.agg #[.int .u8 x0.Aid, .int .i64 x0.Cursor, .slice a21 x0.Fields.length p22], .int .i64 x1]) (rs := [.tmp 4]) (N := 56) Tryz.func14 rfl rfl rfl rfl ?_
 refine st 2 [] (k_op (nB hs [.int .u8 x0.Aid, .int .i64 x0.Cursor, .slice a21 x0.Fields.length p22] ?_))
 intro b25 h hs
 refine st 5 [] (k_op (lB (hs.bl d0) 0 rfl ?_))
 refine k_op (nS (e := 5) hs .i (tInt .u8) ([x0.Aid] : List Int) [.int .u8 x0.Aid] 1 (.int .u8 0) (Reps.int (I := (Cl.G .i E.B I)) (k := .u8) (l := [x0.Aid])) ?_)
 intro b26 h hs
 refine st 6 [] (k_op (lB (hs.bl d1) 0 rfl ?_))
 refine k_call H (fun _ m => shutterref05_Bare.calls m) ?_
 rintro t28 _ _ H ⟨rfl, rfl⟩
 cases t28
 ·rw [cond_false] at H
  refine st 7 [false] (k_op (lB (hs.bl d1) 1 rfl ?_))
  obtain ⟨hk, bk⟩ := hs.call tk0 .n
  refine st 1 [] (k_call H (fun _ m => shutterref04_Put.calls m hk) ?_)
  rintro t29 _ h H ⟨I, _, ⟨a30, p31, n32, rfl, rfl⟩, hk⟩
  replace hs := bk hk ct1 rfl
  obtain rfl := hs.nO d0
  replace hs := (hs.f d1)
  obtain ⟨l34, m35, H⟩ := bind_some H
  refine k_op (aO (e := 5) (bytes := 1) hs (hs.sO d1) m35 ?_)
  intro a36 p37 h hs
  refine st 8 [] ?_
  obtain ⟨s45, m52, HR51⟩ := bind_some H
  refine k_loop 0 (fun k' ρ h => ∃ (x39 : List Int) (x44 : Int) (a40 : Option Addr) (p41 : Nat) (n42 : Nat) (I : Gh), shutterref09_Write.l1.m K x0 x1 k' x39 x44 = some s45 ∧ Fits [(1, .int .i64 x1), (2, .pointer (some ⟨b25, 0, none⟩)), (5, .slice a40 n42 p41), (6, .int .i64 x44)] ρ ∧ St E [rO (tInt .u8) .i a40 p41 n42 x39, rR t_api_Entry .b a21 p22 x0.Fields.length x0.Fields, rB b25 [.int .u8 x0.Aid, .int .i64 x0.Cursor, .slice a21 x0.Fields.length p22] 46] I h) (fun ρ h => ∃ (x46 : List Int) (a47 : Option Addr) (p48 : Nat) (n49 : Nat) (I : Gh), x46 = s45 ∧ Fits [(5, .slice a47 n49 p48)] ρ ∧ St E [rO (tInt .u8) .i a47 p48 n49 x46] I h) K ⟨l34, 0, a36, p37, l34.length, I, m52, ⟨by kernel_rfl, by kernel_rfl, by kernel_rfl, by kernel_rfl, trivial⟩, hs.pk (.c d0 (.c d2 (.c d1 .n)))⟩ ?_ rfl ?_
  ·clear HR51 m52 H
   rintro k' ρ h ⟨x39, x44, a40, p41, n42, I, H, hf, hs⟩
   cases k' with
   | zero => cases H
   | succ k =>
    rw [shutterref09_Write.l1.m] at H
    refine k_fits _ hf ?_ rfl
    obtain rfl := hs.nO d0
    refine st 5 [] (k_op (lB (hs.bl d2) 2 rfl ?_))
    refine st 1 [] (k_ite H (fun c53 H => ?_) (fun c53 H => ?_))
    ·refine st 6 [true] ?_
     obtain ⟨j98, e113, H⟩ := letJ_some H
     refine k_join (fun ρ h => ∃ (x93 : List Int) (a94 : Option Addr) (p95 : Nat) (n96 : Nat) (I : Gh), j98 x93 = some s45 ∧ Fits [(1, .int .i64 x1), (2, .pointer (some ⟨b25, 0, none⟩)), (5, .slice a94 n96 p95), (6, .int .i64 x44)] ρ ∧ St E [rO (tInt .u8) .i a94 p95 n96 x93, rR t_api_Entry .b a21 p22 x0.Fields.length x0.Fields, rB b25 [.int .u8 x0.Aid, .int .i64 x0.Cursor, .slice a21 x0.Fields.length p22] 46] I h) ?_ ?_
     ·refine st 1 [] ?_
      obtain ⟨j65, e92, H⟩ := letJ_some H
      refine k_join (fun ρ h => ∃ (x64 : Bool) (I : Gh), j65 x64 = some s45 ∧ Fits [(1, .int .i64 x1), (2, .pointer (some ⟨b25, 0, none⟩)), (5, .slice a40 x39.length p41), (6, .int .i64 x44), (33, .bool x64)] ρ ∧ St E [rO (tInt .u8) .i a40 p41 x39.length x39, rR t_api_Entry .b a21 p22 x0.Fields.length x0.Fields, rB b25 [.int .u8 x0.Aid, .int .i64 x0.Cursor, .slice a21 x0.Fields.length p22] 46] I h) ?_ ?_
      ·refine st 2 [] (k_op (lB (hs.bl d2) 2 rfl ?_))
       obtain ⟨c54, H⟩ := guard_pos H
       refine st 1 [] (k_val (elemPtr a21 (x44.toNat * 2)) (pI (e := 67) (ik := .i64) (hs.sR d1) c54 c53) ?_)
       refine k_val (elemPtr a21 (x44.toNat * 2 + 0)) (pF (off := 0) (hs.sR d1) c54 c53) ?_
       obtain ⟨y56, g55, q57⟩ := (hs.sR d1).toSl.seg c54 c53
       obtain ⟨a58, p59, n60, rfl, q62⟩ := t_api_Entry.open_ q57
       obtain rfl := q62.2
       replace hs := hs.pR q62
       refine k_op (lC (seg_cell (f := 0) g55 rfl) ?_)
       refine k_ite H (fun c63 H => ?_) (fun c63 H => ?_)
       ·refine st 1 [] ?_
        exact k_end ⟨true, I, H, ⟨by kernel_rfl, by kernel_rfl, by kernel_rfl, by kernel_rfl, by kernel_rfl, trivial⟩, hs.pk (.c d1 (.c d1 (.c d1 .n)))⟩
       ·refine st 1 [] ?_
        exact k_end ⟨false, I, H, ⟨by kernel_rfl, by kernel_rfl, by kernel_rfl, by kernel_rfl, by kernel_rfl, trivial⟩, hs.pk (.c d1 (.c d1 (.c d1 .n)))⟩
      ·clear H
       rintro ρ h ⟨x64, I, H, hf, hs⟩
       refine k_fits _ hf ?_ rfl
       subst e92
       try dsimp only at H
       cases x64
       ·rw [cond_false] at H
        refine st 2 [false] ?_
        exact k_end ⟨x39, a40, p41, x39.length, I, H, ⟨by kernel_rfl, by kernel_rfl, by kernel_rfl, by kernel_rfl, trivial⟩, hs.pk (.c d0 (.c d0 (.c d0 .n)))⟩
       ·rw [cond_true] at H
        refine st 4 [true] (k_op (nS (e := 5) hs .i (tInt .u8) ([17] : List Int) [.int .u8 17] 1 (.int .u8 0) (Reps.int (I := (Cl.G .i E.B I)) (k := .u8) (l := [17])) ?_))
        intro b66 h hs
        replace hs := (hs.f d1)
        obtain ⟨l68, m69, H⟩ := bind_some H
        refine k_op (aO (e := 5) (bytes := 1) hs (hs.sO d1) m69 ?_)
        intro a70 p71 h hs
        refine st 5 [] (k_op (lB (hs.bl d3) 2 rfl ?_))
        obtain ⟨c73, H⟩ := guard_pos H
        refine st 1 [] (k_val (elemPtr a21 (x44.toNat * 2)) (pI (e := 67) (ik := .i64) (hs.sR d2) c73 c53) ?_)
        refine k_val (elemPtr a21 (x44.toNat * 2 + 0)) (pF (off := 0) (hs.sR d2) c73 c53) ?_
        obtain ⟨y75, g74, q76⟩ := (hs.sR d2).toSl.seg c73 c53
        obtain ⟨a77, p78, n79, rfl, q81⟩ := t_api_Entry.open_ q76
        obtain rfl := q81.2
        replace hs := hs.pR q81
        refine k_op (lC (seg_cell (f := 0) g74 rfl) ?_)
        obtain ⟨hk, bk⟩ := hs.call tk0 .n
        refine st 1 [] (k_call H (fun _ m => shutterref04_Put.calls m hk) ?_)
        rintro t82 _ h H ⟨I, _, ⟨a83, p84, n85, rfl, rfl⟩, hk⟩
        replace hs := bk hk ct1 rfl
        obtain rfl := hs.nO d0
        replace hs := (hs.f d2)
        obtain ⟨l87, m88, H⟩ := bind_some H
        refine k_op (aO (e := 5) (bytes := 1) hs (hs.sO d1) m88 ?_)
        intro a89 p90 h hs
        refine st 2 [] ?_
        exact k_end ⟨l87, a89, p90, l87.length, I, H, ⟨by kernel_rfl, by kernel_rfl, by kernel_rfl, by kernel_rfl, trivial⟩, hs.pk (.c d0 (.c d3 (.c d3 .n)))⟩
     ·clear H
      rintro ρ h ⟨x93, a94, p95, n96, I, H, hf, hs⟩
      refine k_fits _ hf ?_ rfl
      subst e113
      try dsimp only at H
      obtain rfl := hs.nO d0
      refine st 3 [] (k_op (lB (hs.bl d2) 2 rfl ?_))
      obtain ⟨c99, H⟩ := guard_pos H
      refine st 1 [] (k_val (elemPtr a21 (x44.toNat * 2)) (pI (e := 67) (ik := .i64) (hs.sR d1) c99 c53) ?_)
      refine k_val (elemPtr a21 (x44.toNat * 2 + 1)) (pF (off := 1) (hs.sR d1) c99 c53) ?_
      obtain ⟨y101, g100, q102⟩ := (hs.sR d1).toSl.seg c99 c53
      obtain ⟨a103, p104, n105, rfl, q107⟩ := t_api_Entry.open_ q102
      obtain rfl := q107.2
      replace hs := hs.pR q107
      refine k_op (lC (seg_cell (f := 1) g100 rfl) ?_)
      replace hs := (hs.f d1)
      obtain ⟨l108, m109, H⟩ := bind_some H
      refine k_op (aO (e := 5) (bytes := 1) hs ((hs.sR d1).flat flat_int) m109 ?_)
      intro a110 p111 h hs
      refine st 8 [] ?_
      exact k_endL ⟨k, Nat.lt_succ_self _, l108, (w64 (x44 + 1)), a110, p111, l108.length, I, H, ⟨by kernel_rfl, by kernel_rfl, by kernel_rfl, by kernel_rfl, trivial⟩, hs.pk (.c d0 (.c d1 (.c d1 .n)))⟩
    ·refine st 2 [false] ?_
     refine k_out rfl ?_
     obtain rfl := Option.some.inj H
     exact xE ⟨x39, a40, p41, x39.length, I, rfl, ⟨by kernel_rfl, trivial⟩, hs.pk (.c d0 .n)⟩
  ·rintro ρ h ⟨x46, a47, p48, n49, I, rfl, hf, hs⟩
   have H := HR51
   try dsimp only at H
   refine k_fits _ hf ?_ rfl
   obtain rfl := hs.nO d0
   refine st 5 [] ?_
   refine k_retQ ?_
   obtain rfl := Option.some.inj H
   exact ⟨_, by kernel_rfl, I, _, ⟨a47, p48, x46.length, rfl, rfl⟩, hs.pk (.c d0 .n)⟩
 ·rw [cond_true] at H
  refine st 7 [true] ?_
  refine k_retQ ?_
  obtain rfl := Option.some.inj H
  exact ⟨_, by kernel_rfl, I, _, ⟨(some ⟨b26, 0, none⟩), 1, 1, rfl, rfl⟩, hs.pk (.c d0 .n)⟩

/-! shutter/shutterref11.Formatted -/
def shutterref11_Formatted.l1.m (K : Nat) (x0 : api_Screen) : Nat → Int → Option (Bool ⊕ (Unit))
  | 0, _ => none
  | k + 1, x26 => (if x26 < (x0.Cells.length : Int) then (if 0 ≤ x26 then (bif (at_ x0.Cells x26).Field then (some (Sum.inl true)) else (shutterref11_Formatted.l1.m K x0 k (w64 (x26 + 1)))) else none) else (some (Sum.inr ())))
def shutterref11_Formatted.m (K : Nat) (x0 : api_Screen) : Option Bool :=
  ((shutterref11_Formatted.l1.m K x0 K 0).bind fun s27 => match s27 with | .inl q => (some q) | .inr _ => (some false))

theorem shutterref11_Formatted.calls {B I : Gh} {h : Heap} {K : Nat} {x0 : api_Screen} {a21 : Option Addr} {p22 : Nat} {n23 : Nat} {r : Bool} (H : shutterref11_Formatted.m K x0 = some r)  :
    Fc Tryz.prog 37 #[.agg #[.int .i64 x0.Rows, .int .i64 x0.Cols, .slice a21 n23 p22, .int .i64 x0.Cursor, .bool x0.Locked, .bool x0.Insert]] [rR t_api_Cell .b a21 p22 n23 x0.Cells] B I h (fun v L => v = .bool r ∧ L = []) := by
 refine fc_of fun E hs => ?_
 unfold shutterref11_Formatted.m at H
 obtain rfl := hs.nR d0
 refine fn_of (args := [.agg #[.int .i64 x0.Rows, .int .i64 x0.Cols, .slice a21 x0.Cells.length p22, .int .i64 x0.Cursor, .bool x0.Locked, .bool x0.Insert]]) (rs := [.tmp 2]) (N := 17) Tryz.func37 rfl rfl rfl rfl ?_
 refine st 2 [] (k_op (nB hs [.int .i64 x0.Rows, .int .i64 x0.Cols, .slice a21 x0.Cells.length p22, .int .i64 x0.Cursor, .bool x0.Locked, .bool x0.Insert] ?_))
 intro b25 h hs
 refine st 8 [] ?_
 obtain ⟨s27, m29, HR28⟩ := bind_some H
 refine k_loop 0 (fun k' ρ h => ∃ (x26 : Int) (I : Gh), shutterref11_Formatted.l1.m K x0 k' x26 = some s27 ∧ Fits [(1, .pointer (some ⟨b25, 0, none⟩)), (3, .int .i64 x26)] ρ ∧ St E [rR t_api_Cell .b a21 p22 x0.Cells.length x0.Cells, rB b25 [.int .i64 x0.Rows, .int .i64 x0.Cols, .slice a21 x0.Cells.length p22, .int .i64 x0.Cursor, .bool x0.Locked, .bool x0.Insert] 24] I h) (fun ρ h => ∃ (I : Gh), Sum.inr () = s27 ∧ Fits [] ρ ∧ St E [] I h) K ⟨0, I, m29, ⟨by kernel_rfl, by kernel_rfl, trivial⟩, hs.pk (.c d1 (.c d0 .n))⟩ ?_ rfl ?_
 ·clear m29 H
  rintro k' ρ h ⟨x26, I, H, hf, hs⟩
  cases k' with
  | zero => cases H
  | succ k =>
   rw [shutterref11_Formatted.l1.m] at H
   refine k_fits _ hf ?_ rfl
   refine st 5 [] (k_op (lB (hs.bl d1) 2 rfl ?_))
   refine st 1 [] (k_ite H (fun c30 H => ?_) (fun c30 H => ?_))
   ·refine st 8 [true] (k_op (lB (hs.bl d1) 2 rfl ?_))
    obtain ⟨c31, H⟩ := guard_pos H
    refine st 1 [] (k_val (elemPtr a21 (x26.toNat * 6)) (pI (e := 57) (ik := .i64) (hs.sR d0) c31 c30) ?_)
    refine k_val (elemPtr a21 (x26.toNat * 6 + 0)) (pF (off := 0) (hs.sR d0) c31 c30) ?_
    obtain ⟨y33, g32, q34⟩ := (hs.sR d0).toSl.seg c31 c30
    obtain rfl := t_api_Cell.open_ q34
    refine k_op (lC (seg_cell (f := 0) g32 rfl) ?_)
    refine k_spl H (fun c35 H => ?_) (fun c35 H => ?_)
    ·refine st 6 [true] ?_
     refine k_retQ (krL ?_)
     obtain rfl := Option.some.inj H
     obtain rfl := Option.some.inj HR28
     exact ⟨_, by kernel_rfl, I, _, ⟨rfl, rfl⟩, hs.pk .n⟩
    ·refine st 9 [false] ?_
     exact k_endL ⟨k, Nat.lt_succ_self _, (w64 (x26 + 1)), I, H, ⟨by kernel_rfl, by kernel_rfl, trivial⟩, hs.pk (.c d0 (.c d0 .n))⟩
   ·refine st 2 [false] ?_
    refine k_out rfl ?_
    obtain rfl := Option.some.inj H
    exact xE ⟨I, rfl, trivial, hs.pk .n⟩
 ·rintro ρ h ⟨I, rfl, hf, hs⟩
  have H := HR28
  try dsimp only at H
  refine k_fits _ hf ?_ rfl
  refine st 4 [] ?_
  refine k_retQ ?_
  obtain rfl := Option.some.inj H
  exact ⟨_, by kernel_rfl, I, _, ⟨rfl, rfl⟩, hs.pk .n⟩

/-! shutter/shutterref09.Letter -/
def shutterref09_Letter.m (x0 : Int) : Option Bool :=
  (if x0 = 0 then (some false) else ((shutterref05_Char.m x0).bind fun t22 => (some t22)))

theorem shutterref09_Letter.calls {x0 : Int} {h : Heap} {r : Bool} (H : shutterref09_Letter.m x0 = some r)   :
    Ret Tryz.prog 38 #[.int .u8 x0] h (fun v h' => .bool r = v ∧ h' = h) := by
 unfold shutterref09_Letter.m at H
 refine fn_of (args := [.int .u8 x0]) (rs := [.tmp 2]) (N := 9) Tryz.func38 rfl rfl rfl rfl ?_
 refine st 7 [] (k_iteN H (fun c21 H => ?_) (fun c21 H => ?_))
 ·refine st 6 [] ?_
  refine k_retQ ?_
  obtain rfl := Option.some.inj H
  exact ⟨_, by kernel_rfl, rfl, rfl⟩
 ·refine st 2 [] (k_call H (fun _ m => shutterref05_Char.calls m) ?_)
  rintro t22 _ _ H ⟨rfl, rfl⟩
  refine st 3 [] ?_
  refine k_retQ ?_
  obtain rfl := Option.some.inj H
  exact ⟨_, by kernel_rfl, rfl, rfl⟩

/-! shutter/shutterref11.mod -/
def shutterref11_mod.l1.m (K : Nat) (x1 : Int) : Nat → Int → Option (Int)
  | 0, _ => none
  | k + 1, x21 => (if x21 < 0 then (shutterref11_mod.l1.m K x1 k (w64 (x21 + x1))) else (some (x21)))
def shutterref11_mod.m (K : Nat) (x0 : Int) (x1 : Int) : Option Int :=
  ((shutterref11_mod.l1.m K x1 K x0).bind fun x23 => (if x1 ≠ 0 then (some (Int.tmod x23 x1)) else none))

theorem shutterref11_mod.calls {K : Nat} {x0 : Int} {x1 : Int} {h : Heap} {r : Int} (H : shutterref11_mod.m K x0 x1 = some r)   :
    Ret Tryz.prog 83 #[.int .i64 x0, .int .i64 x1] h (fun v h' => .int .i64 r = v ∧ h' = h) := by
 unfold shutterref11_mod.m at H
 refine fn_of (args := [.int .i64 x0, .int .i64 x1]) (rs := [.tmp 4]) (N := 13) Tryz.func83 rfl rfl rfl rfl ?_
 refine st 6 [] ?_
 obtain ⟨s22, m25, HR24⟩ := bind_some H
 refine k_loop 0 (fun k' ρ h1 => ∃ (x21 : Int), shutterref11_mod.l1.m K x1 k' x21 = some s22 ∧ Fits [(0, .int .i64 x21), (1, .int .i64 x1)] ρ ∧ h = h1) (fun ρ h1 => ∃ (x23 : Int), x23 = s22 ∧ Fits [(0, .int .i64 x23), (1, .int .i64 x1)] ρ ∧ h = h1) K ⟨x0, m25, ⟨by kernel_rfl, by kernel_rfl, trivial⟩, rfl⟩ ?_ rfl ?_
 ·clear HR24 m25 H
  rintro k' ρ h1 ⟨x21, H, hf, rfl⟩
  cases k' with
  | zero => cases H
  | succ k =>
   rw [shutterref11_mod.l1.m] at H
   refine k_fits _ hf ?_ rfl
   refine st 4 [] (k_ite H (fun c26 H => ?_) (fun c26 H => ?_))
   ·refine st 11 [true] ?_
    exact k_endL ⟨k, Nat.lt_succ_self _, (w64 (x21 + x1)), H, ⟨by kernel_rfl, by kernel_rfl, trivial⟩, rfl⟩
   ·refine st 2 [false] ?_
    refine k_out rfl ?_
    obtain rfl := Option.some.inj H
    exact xE ⟨x21, rfl, ⟨by kernel_rfl, by kernel_rfl, trivial⟩, rfl⟩
 ·rintro ρ h1 ⟨x23, rfl, hf, rfl⟩
  have H := HR24
  try dsimp only at H
  refine k_fits _ hf ?_ rfl
  obtain ⟨c27, H⟩ := guard_pos H
  refine st 4 [] (k_val (.int .i64 (Int.tmod x23 x1)) (pr_rem (k := .i64) (a := x23) (b := x1) (by kernel_rfl) (by kernel_rfl) c27) ?_)
  refine st 2 [] ?_
  refine k_retQ ?_
  obtain rfl := Option.some.inj H
  exact ⟨_, by kernel_rfl, rfl, rfl⟩

/-! shutter/shutterref11.Begin -/
def shutterref11_Begin.l1.m (K : Nat) (x0 : api_Screen) (x1 : Int) : Nat → Int → Option (Int ⊕ (Unit))
  | 0, _ => none
  | k + 1, x26 => (if x26 < (x0.Cells.length : Int) then ((shutterref11_mod.m K (w64 (x1 - x26)) (x0.Cells.length : Int)).bind fun t31 => (if 0 ≤ t31 then (if t31 < (x0.Cells.length : Int) then (bif (at_ x0.Cells t31).Field then (some (Sum.inl t31)) else (shutterref11_Begin.l1.m K x0 x1 k (w64 (x26 + 1)))) else none) else none)) else (some (Sum.inr ())))
def shutterref11_Begin.m (K : Nat) (x0 : api_Screen) (x1 : Int) : Option Int :=
  ((shutterref11_Begin.l1.m K x0 x1 K 0).bind fun s27 => match s27 with | .inl q => (some q) | .inr _ => (some (-1)))

theorem shutterref11_Begin.calls {B I : Gh} {h : Heap} {K : Nat} {x0 : api_Screen} {x1 : Int} {a21 : Option Addr} {p22 : Nat} {n23 : Nat} {r : Int} (H : shutterref11_Begin.m K x0 x1 = some r)  :
    Fc Tryz.prog 82 #[.agg #[.int .i64 x0.Rows, .int .i64 x0.Cols, .slice a21 n23 p22, .int .i64 x0.Cursor, .bool x0.Locked, .bool x0.Insert], .int .i64 x1] [rR t_api_Cell .b a21 p22 n23 x0.Cells] B I h (fun v L => v = .int .i64 r ∧ L = []) := by
 refine fc_of fun E hs => ?_
 unfold shutterref11_Begin.m at H
 obtain rfl := hs.nR d0
 refine fn_of (args := [.agg #[.int .i64 x0.Rows, .int .i64 x0.Cols, .slice a21 x0.Cells.length p22, .int .i64 x0.Cursor, .bool x0.Locked, .bool x0.Insert], .int .i64 x1]) (rs := [.tmp 4]) (N := 28) Tryz.func82 rfl rfl rfl rfl ?_
 refine st 2 [] (k_op (nB hs [.int .i64 x0.Rows, .int .i64 x0.Cols, .slice a21 x0.Cells.length p22, .int .i64 x0.Cursor, .bool x0.Locked, .bool x0.Insert] ?_))
 intro b25 h hs
 refine st 8 [] ?_
 obtain ⟨s27, m29, HR28⟩ := bind_some H
 refine k_loop 0 (fun k' ρ h => ∃ (x26 : Int) (I : Gh), shutterref11_Begin.l1.m K x0 x1 k' x26 = some s27 ∧ Fits [(1, .int .i64 x1), (2, .pointer (some ⟨b25, 0, none⟩)), (5, .int .i64 x26)] ρ ∧ St E [rR t_api_Cell .b a21 p22 x0.Cells.length x0.Cells, rB b25 [.int .i64 x0.Rows, .int .i64 x0.Cols, .slice a21 x0.Cells.length p22, .int .i64 x0.Cursor, .bool x0.Locked, .bool x0.Insert] 24] I h) (fun ρ h => ∃ (I : Gh), Sum.inr () = s27 ∧ Fits [] ρ ∧ St E [] I h) K ⟨0, I, m29, ⟨by kernel_rfl, by kernel_rfl, by kernel_rfl, trivial⟩, hs.pk (.c d1 (.c d0 .n))⟩ ?_ rfl ?_
 ·clear m29 H
  rintro k' ρ h ⟨x26, I, H, hf, hs⟩
  cases k' with
  | zero => cases H
  | succ k =>
   rw [shutterref11_Begin.l1.m] at H
   refine k_fits _ hf ?_ rfl
   refine st 5 [] (k_op (lB (hs.bl d1) 2 rfl ?_))
   refine st 1 [] (k_ite H (fun c30 H => ?_) (fun c30 H => ?_))
   ·refine st 11 [true] (k_op (lB (hs.bl d1) 2 rfl ?_))
    refine st 1 [] (k_call H (fun _ m => shutterref11_mod.calls m) ?_)
    rintro t31 _ _ H ⟨rfl, rfl⟩
    refine st 5 [] (k_op (lB (hs.bl d1) 2 rfl ?_))
    obtain ⟨c32, H⟩ := guard_pos H
    obtain ⟨c33, H⟩ := guard_pos H
    refine st 1 [] (k_val (elemPtr a21 (t31.toNat * 6)) (pI (e := 57) (ik := .i64) (hs.sR d0) c32 c33) ?_)
    refine k_val (elemPtr a21 (t31.toNat * 6 + 0)) (pF (off := 0) (hs.sR d0) c32 c33) ?_
    obtain ⟨y35, g34, q36⟩ := (hs.sR d0).toSl.seg c32 c33
    obtain rfl := t_api_Cell.open_ q36
    refine k_op (lC (seg_cell (f := 0) g34 rfl) ?_)
    refine k_spl H (fun c37 H => ?_) (fun c37 H => ?_)
    ·refine st 7 [true] ?_
     refine k_retQ (krL ?_)
     obtain rfl := Option.some.inj H
     obtain rfl := Option.some.inj HR28
     exact ⟨_, by kernel_rfl, I, _, ⟨rfl, rfl⟩, hs.pk .n⟩
    ·refine st 9 [false] ?_
     exact k_endL ⟨k, Nat.lt_succ_self _, (w64 (x26 + 1)), I, H, ⟨by kernel_rfl, by kernel_rfl, by kernel_rfl, trivial⟩, hs.pk (.c d0 (.c d0 .n))⟩
   ·refine st 2 [false] ?_
    refine k_out rfl ?_
    obtain rfl := Option.some.inj H
    exact xE ⟨I, rfl, trivial, hs.pk .n⟩
 ·rintro ρ h ⟨I, rfl, hf, hs⟩
  have H := HR28
  try dsimp only at H
  refine k_fits _ hf ?_ rfl
  refine st 4 [] ?_
  refine k_retQ ?_
  obtain rfl := Option.some.inj H
  exact ⟨_, by kernel_rfl, I, _, ⟨rfl, rfl⟩, hs.pk .n⟩

/-! shutter/shutterref11.Cells -/
def shutterref11_Cells.l1.m (K : Nat) (x0 : api_Screen) (t26 : Int) : Nat → (List Int) → Int → Option ((List Int))
  | 0, _, _ => none
  | k + 1, x27, x32 => (if x32 ≤ (x0.Cells.length : Int) then ((shutterref11_mod.m K (w64 (t26 + x32)) (x0.Cells.length : Int)).bind fun t42 => (if 0 ≤ t42 then (if t42 < (x0.Cells.length : Int) then (bif (at_ x0.Cells t42).Field then (some (x27)) else ((app x27 [t42]).bind fun l51 => (shutterref11_Cells.l1.m K x0 t26 k l51 (w64 (x32 + 1))))) else none) else none)) else (some (x27)))
def shutterref11_Cells.m (K : Nat) (x0 : api_Screen) (x1 : Int) : Option (List Int) :=
  ((shutterref11_Begin.m K x0 x1).bind fun t26 => ((shutterref11_Cells.l1.m K x0 t26 K [] 1).bind fun x34 => (some x34)))

theorem shutterref11_Cells.calls {B I : Gh} {h : Heap} {K : Nat} {x0 : api_Screen} {x1 : Int} {a21 : Option Addr} {p22 : Nat} {n23 : Nat} {r : (List Int)} (H : shutterref11_Cells.m K x0 x1 = some r)  :
    Fc Tryz.prog 39 #[.agg #[.int .i64 x0.Rows, .int .i64 x0.Cols, .slice a21 n23 p22, .int .i64 x0.Cursor, .bool x0.Locked, .bool x0.Insert], .int .i64 x1] [rR t_api_Cell .b a21 p22 n23 x0.Cells] B I h (fun v L => ∃ (a56 : Option Addr) (p57 : Nat) (n58 : Nat), v = .slice a56 n58 p57 ∧ L = [rO (tInt .i64) .i a56 p57 n58 r]) := by
 refine fc_of fun E hs => ?_
 unfold shutterref11_Cells.m at H
 obtain rfl := hs.nR d0
 refine fn_of (args := [.agg #[.int .i64 x0.Rows, .int .i64 x0.Cols, .slice a21 x0.Cells.length p22, .int .i64 x0.Cursor, .bool x0.Locked, .bool x0.Insert], .int .i64 x1]) (rs := [.tmp 4]) (N := 37) Tryz.func39 rfl rfl rfl rfl ?_
 refine st 2 [] (k_op (nB hs [.int .i64 x0.Rows, .int .i64 x0.Cols, .slice a21 x0.Cells.length p22, .int .i64 x0.Cursor, .bool x0.Locked, .bool x0.Insert] ?_))
 intro b25 h hs
 refine st 8 [] (k_op (lN (hs.bl d0) 0 6 ?_))
 obtain ⟨hk, bk⟩ := hs.call tk0 (.c (qB d1) .n)
 refine st 1 [] (k_call H (fun _ m => shutterref11_Begin.calls m hk) ?_)
 rintro t26 _ h H ⟨I, _, ⟨rfl, rfl⟩, hk⟩
 replace hs := bk hk ct0 rfl
 refine st 8 [] ?_
 obtain ⟨s33, m40, HR39⟩ := bind_some H
 refine k_loop 0 (fun k' ρ h => ∃ (x27 : List Int) (x32 : Int) (a28 : Option Addr) (p29 : Nat) (n30 : Nat) (I : Gh), shutterref11_Cells.l1.m K x0 t26 k' x27 x32 = some s33 ∧ Fits [(2, .pointer (some ⟨b25, 0, none⟩)), (5, .slice a28 n30 p29), (6, .int .i64 t26), (7, .int .i64 x32)] ρ ∧ St E [rO (tInt .i64) .i a28 p29 n30 x27, rR t_api_Cell .b a21 p22 x0.Cells.length x0.Cells, rB b25 [.int .i64 x0.Rows, .int .i64 x0.Cols, .slice a21 x0.Cells.length p22, .int .i64 x0.Cursor, .bool x0.Locked, .bool x0.Insert] 24] I h) (fun ρ h => ∃ (x34 : List Int) (a35 : Option Addr) (p36 : Nat) (n37 : Nat) (I : Gh), x34 = s33 ∧ Fits [(5, .slice a35 n37 p36)] ρ ∧ St E [rO (tInt .i64) .i a35 p36 n37 x34] I h) K ⟨[], 1, none, 0, 0, I, m40, ⟨by kernel_rfl, by kernel_rfl, by kernel_rfl, by kernel_rfl, trivial⟩, hs.pk (.f imON (.c d1 (.c d0 .n)))⟩ ?_ rfl ?_
 ·clear HR39 m40 H
  rintro k' ρ h ⟨x27, x32, a28, p29, n30, I, H, hf, hs⟩
  cases k' with
  | zero => cases H
  | succ k =>
   rw [shutterref11_Cells.l1.m] at H
   refine k_fits _ hf ?_ rfl
   obtain rfl := hs.nO d0
   refine st 5 [] (k_op (lB (hs.bl d2) 2 rfl ?_))
   refine st 1 [] (k_ite H (fun c41 H => ?_) (fun c41 H => ?_))
   ·refine st 11 [true] (k_op (lB (hs.bl d2) 2 rfl ?_))
    refine st 1 [] (k_call H (fun _ m => shutterref11_mod.calls m) ?_)
    rintro t42 _ _ H ⟨rfl, rfl⟩
    refine st 6 [] (k_op (lB (hs.bl d2) 2 rfl ?_))
    obtain ⟨c43, H⟩ := guard_pos H
    obtain ⟨c44, H⟩ := guard_pos H
    refine st 1 [] (k_val (elemPtr a21 (t42.toNat * 6)) (pI (e := 57) (ik := .i64) (hs.sR d1) c43 c44) ?_)
    refine k_val (elemPtr a21 (t42.toNat * 6 + 0)) (pF (off := 0) (hs.sR d1) c43 c44) ?_
    obtain ⟨y46, g45, q47⟩ := (hs.sR d1).toSl.seg c43 c44
    obtain rfl := t_api_Cell.open_ q47
    refine k_op (lC (seg_cell (f := 0) g45 rfl) ?_)
    refine k_spl H (fun c48 H => ?_) (fun c48 H => ?_)
    ·refine st 2 [true] ?_
     refine k_out rfl ?_
     obtain rfl := Option.some.inj H
     exact xE ⟨x27, a28, p29, x27.length, I, rfl, ⟨by kernel_rfl, trivial⟩, hs.pk (.c d0 .n)⟩
    ·refine st 6 [false] (k_op (nS (e := 3) hs .i (tInt .i64) ([t42] : List Int) [.int .i64 t42] 1 (.int .i64 0) (Reps.int (I := (Cl.G .i E.B I)) (k := .i64) (l := [t42])) ?_))
     intro b49 h hs
     replace hs := (hs.f d1)
     obtain ⟨l51, m52, H⟩ := bind_some H
     refine k_op (aO (e := 3) (bytes := 8) hs (hs.sO d1) m52 ?_)
     intro a53 p54 h hs
     refine st 8 [] ?_
     exact k_endL ⟨k, Nat.lt_succ_self _, l51, (w64 (x32 + 1)), a53, p54, l51.length, I, H, ⟨by kernel_rfl, by kernel_rfl, by kernel_rfl, by kernel_rfl, trivial⟩, hs.pk (.c d0 (.c d1 (.c d1 .n)))⟩
   ·refine st 2 [false] ?_
    refine k_out rfl ?_
    obtain rfl := Option.some.inj H
    exact xE ⟨x27, a28, p29, x27.length, I, rfl, ⟨by kernel_rfl, trivial⟩, hs.pk (.c d0 .n)⟩
 ·rintro ρ h ⟨x34, a35, p36, n37, I, rfl, hf, hs⟩
  have H := HR39
  try dsimp only at H
  refine k_fits _ hf ?_ rfl
  obtain rfl := hs.nO d0
  refine st 5 [] ?_
  refine k_retQ ?_
  obtain rfl := Option.some.inj H
  exact ⟨_, by kernel_rfl, I, _, ⟨a35, p36, x34.length, rfl, rfl⟩, hs.pk (.c d0 .n)⟩

/-! shutter/shutterref10.Next -/
def shutterref10_Next.m (x0 : api_Screen) (x1 : Int) : Option Int :=
  (if (w64 (x1 + 1)) = (x0.Cells.length : Int) then (some 0) else (some (w64 (x1 + 1))))

theorem shutterref10_Next.calls {B I : Gh} {h : Heap} {x0 : api_Screen} {x1 : Int} {a21 : Option Addr} {p22 : Nat} {n23 : Nat} {r : Int} (H : shutterref10_Next.m x0 x1 = some r)  :
    Fc Tryz.prog 40 #[.agg #[.int .i64 x0.Rows, .int .i64 x0.Cols, .slice a21 n23 p22, .int .i64 x0.Cursor, .bool x0.Locked, .bool x0.Insert], .int .i64 x1] [rR t_api_Cell .b a21 p22 n23 x0.Cells] B I h (fun v L => v = .int .i64 r ∧ L = []) := by
 refine fc_of fun E hs => ?_
 unfold shutterref10_Next.m at H
 obtain rfl := hs.nR d0
 refine fn_of (args := [.agg #[.int .i64 x0.Rows, .int .i64 x0.Cols, .slice a21 x0.Cells.length p22, .int .i64 x0.Cursor, .bool x0.Locked, .bool x0.Insert], .int .i64 x1]) (rs := [.tmp 4]) (N := 13) Tryz.func40 rfl rfl rfl rfl ?_
 refine st 2 [] (k_op (nB hs [.int .i64 x0.Rows, .int .i64 x0.Cols, .slice a21 x0.Cells.length p22, .int .i64 x0.Cursor, .bool x0.Locked, .bool x0.Insert] ?_))
 intro b25 h hs
 refine st 8 [] (k_op (lB (hs.bl d0) 2 rfl ?_))
 refine st 1 [] (k_ite H (fun c26 H => ?_) (fun c26 H => ?_))
 ·refine st 6 [true] ?_
  refine k_retQ ?_
  obtain rfl := Option.some.inj H
  exact ⟨_, by kernel_rfl, I, _, ⟨rfl, rfl⟩, hs.pk .n⟩
 ·refine st 9 [false] ?_
  refine k_retQ ?_
  obtain rfl := Option.some.inj H
  exact ⟨_, by kernel_rfl, I, _, ⟨rfl, rfl⟩, hs.pk .n⟩

end Go.Proofs.YtfbcjibdgicaoaaGreatDoor.Sx
