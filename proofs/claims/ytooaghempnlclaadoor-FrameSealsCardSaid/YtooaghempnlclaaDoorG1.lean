/- Printed walks, part 1: each function's model, and that the code comes to it. -/
import Derived.Test.YtooaghempnlclaaDoorProg
import Derived.Test.YtooaghempnlclaaDoorV4
import Derived.Test.YtooaghempnlclaaDoorV5
import Derived.Test.YtooaghempnlclaaDoorG0
namespace Go.Proofs.YtooaghempnlclaaDoor.Sx
open Go
set_option maxRecDepth 100000

/-! slices.Insert[[][]byte,[]byte] -/
def slices_Insert_byte.m (x0 : List (List Int)) (i : Int) (x2 : List (List Int)) : Option (List (List Int)) := ins0 x0 i x2
theorem slices_Insert_byte.calls {B I : Gh} {h : Heap} {x0 x2 : List (List Int)} {i : Int} {a1 a2 : Option Addr} {p1 p2 n1 n2 : Nat} {r : List (List Int)} (H : slices_Insert_byte.m x0 i x2 = some r) :
    Fc Tryd.prog 45 #[.slice a1 n1 p1, .int .i64 i, .slice a2 n2 p2] [rO (tSl (tInt .u8)) .i a1 p1 n1 x0, rO (tSl (tInt .u8)) .i a2 p2 n2 x2] B I h (fun v L => ∃ (a : Option Addr) (p n : Nat), v = .slice a n p ∧ L = [rO (tSl (tInt .u8)) .i a p n r]) := by
  refine fc_of fun E hs => ?_
  unfold slices_Insert_byte.m ins0 at H
  obtain ⟨rfl, H1⟩ := guard_pos H
  clear H
  obtain ⟨hl2, H⟩ := guard_pos H1
  clear H1
  obtain ⟨y, rfl⟩ : ∃ y, x2 = [y] := by
    match x2, hl2 with
    | [y], _ => exact ⟨y, rfl⟩
  obtain rfl := hs.nO d0
  obtain rfl := hs.nO d1
  cases x0 with
  | nil =>
    refine fn_of (args := [.slice a1 ([] : List (List Int)).length p1, .int .i64 0, .slice a2 [y].length p2]) (rs := [.tmp 6]) (N := 95) Tryd.func45 rfl rfl rfl rfl ?_
    refine st 8 [] (k_val (.slice (slA a1 p1 (0 : Int).toNat 1) (sub ([] : List (List Int)) 0 (([] : List (List Int)).length : Int)).length (p1 - (0 : Int).toNat)) (pSl (e := 22) (k1 := .i64) (hs.sO d0) (Int.le_refl 0) (by simp) (Int.le_refl _)) ?_)
    refine st 33 [false, true] (k_op (aO (e := 22) (bytes := 24) hs (hs.sO d1) (r := [y]) (by simp [app, Lim]) ?_))
    intro a p h hs
    refine st 2 [] ?_
    refine k_retQ ?_
    have hr := (app_some H).2
    rw [List.append_nil] at hr
    subst hr
    exact ⟨_, by kernel_rfl, I, _, ⟨a, p, _, rfl, rfl⟩, hs.pk (.c d0 .n)⟩
  | cons z zs =>
    have hg0 := hs.g d0
    have hg1 := hs.g d1
    have hle := hg0.1.1.le
    have hle2 := hg1.1.1.le
    simp only [List.length_cons, List.length_nil] at hle hle2
    obtain ⟨⟨b, o, sp⟩, rfl⟩ : ∃ ad, a1 = some ad := by
      cases a1 with
      | none => have := (hg0.1.1.nil rfl).1; cases this
      | some ad => exact ⟨ad, rfl⟩
    obtain ⟨⟨b2, o2, sp2⟩, rfl⟩ : ∃ ad, a2 = some ad := by
      cases a2 with
      | none => have := (hg1.1.1.nil rfl).1; cases this
      | some ad => exact ⟨ad, rfl⟩
    obtain ⟨hsp, c0, t0, hb0, hf0⟩ := hg0.1.2.ow _ rfl
    obtain ⟨hsp2, c2, t2, hb2, hf2⟩ := hg1.1.2.ow _ rfl
    obtain rfl : sp = none := hsp
    obtain rfl : sp2 = none := hsp2
    simp only at hb0 hb2 hf0 hf2
    have hf0' : o + p1 ≤ c0.size := by simpa [tSl] using hf0
    have hne : b2 ≠ b := fun e => hs.sep.1.2.2 b ⟨_, rfl, rfl⟩ (.inl ⟨_, rfl, e⟩)
    obtain ⟨hlim, hr⟩ := app_some H
    subst hr
    have hlim2 : zs.length + 2 ≤ 1099511627776 := by unfold Lim at hlim; simp only [List.length_cons, List.length_nil] at hlim; omega
    clear hlim
    have hw : w64 ((((z :: zs).length : Nat) : Int) + ((([y] : List (List Int)).length : Nat) : Int)) = ((zs.length + 2 : Nat) : Int) := by
      simp only [List.length_cons, List.length_nil]
      rw [w64, IntKind.wrap_i64]; omega
    refine fn_of (args := [.slice (some ⟨b, o, none⟩) (z :: zs).length p1, .int .i64 0, .slice (some ⟨b2, o2, none⟩) [y].length p2]) (rs := [.tmp 6]) (N := 95) Tryd.func45 rfl rfl rfl rfl ?_
    refine st 8 [] (k_val (.slice (some ⟨b, o + 0, none⟩) ((z :: zs).length - 0) (p1 - 0)) (pXl (e := 22) (k1 := .i64) 0 (by simp) (by simpa using hle) (by omega)) ?_)
    have H0 : (if w64 ((((z :: zs).length : Nat) : Int) + ((([y] : List (List Int)).length : Nat) : Int)) > (p1 : Int) then some () else some ()) = some () := by split <;> rfl
    refine st 38 [false, false] (k_ite H0 (fun c H0 => ?_) (fun c H0 => ?_))
    · clear H0
      have hk : p1 < zs.length + 2 := by rw [hw] at c; omega
      have hrz : (tSl (tInt .u8)).rep ((Cl.i).G E.B I) h [.slice none 0 0] ([] : List Int) := ⟨none, 0, 0, rfl, rd_nil _ _ _, rfl⟩
      refine st 6 [true] (k_val (.slice (some ⟨b, o, none⟩) 0 p1) (pXh (e := 22) (k2 := .i64) (n := (z :: zs).length) 0 (by omega) (by omega)) ?_)
      refine st 4 [] (k_val (.int .i64 ((zs.length + 2 : Nat) : Int)) (pr_eq (v := .int .i64 (w64 (w64 ((((z :: zs).length : Nat) : Int) + ((([y] : List (List Int)).length : Nat) : Int)) - 0))) (by kernel_rfl) ?_) ?_)
      · rw [hw, w64, IntKind.wrap_i64]; exact congrArg (Value.int .i64) (by omega)
      have hfit : Builtin.nextslicecap (0 + (zs.length + 2)) p1 * 24 ≤ 281474976710656 := growslice_fits (need := 0 + (zs.length + 2)) (old := p1) (bytes := 24) (by omega) (by omega)
      refine k_op (owp_appendZ (e := 22) (T := tSl (tInt .u8)) (G := (Cl.i).G E.B I) (I := I) (b := b) (o := o) (cap := p1) (k := zs.length + 2) (bytes := 24) (kn := .i64) ([] : List Int) (.slice none 0 0) (by kernel_rfl) (by kernel_rfl) (elemOk_of (by kernel_rfl)) (by kernel_rfl) rfl hs.bd hs.bdG hrz hk hfit
        (by omega) (by omega) (by kernel_rfl) (by kernel_rfl) ?_)
      intro b3 p3 h3 hb3 hp3 ho3
      have hs := own_new (k := .i) hs hb3 hp3 ho3 (List.length_replicate (n := zs.length + 2))
      have hle3 := (hs.g d0).1.1.le
      rw [List.length_replicate] at hle3
      refine st 6 [] (k_val (.slice (some ⟨b3, 0 + 0, none⟩) (zs.length + 2 - 0) (p3 - 0)) (pXl (e := 22) (k1 := .i64) 0 (by omega) hle3 (by omega)) ?_)
      obtain ⟨cy, ty, fy, hby, _, hfy, _, ry⟩ := (hs.g d2).1.1.reps _ rfl (by omega)
      refine st 1 [] (k_op (owp_copyAt (e := 22) (T := tSl (tInt .u8)) (G := (Cl.i).G E.B I) (I := I) (b := b3) (o := 0) (b2 := b2) (o2 := o2) (cap := p3) (dn := zs.length + 2 - 0) (dc := p3 - 0) (sn := 1) (sc := p2) (p := 0) (l := List.replicate (zs.length + 2) []) (m := [y]) (cs := Sx.seg cy o2 (([y] : List (List Int)).length * (tSl (tInt .u8)).size))
        (by kernel_rfl) (by kernel_rfl) rfl hs.bd hs.bdG (hs.ow d0) (hs.notG d0 _ ⟨_, rfl, rfl⟩) ry (fun w hw => cells_at (by rw [hw]; exact hby)) (by simp) (by simp only [List.length_cons, List.length_nil]; omega)
        (by simp only [List.length_cons, List.length_nil]; simp only [Nat.min_def]; split <;> omega) (by kernel_rfl) (by kernel_rfl) ?_))
      intro h4 hp4 ho4
      have e4 : List.take 0 (List.replicate (zs.length + 2) ([] : List Int)) ++ [y] ++ List.drop (0 + ([y] : List (List Int)).length) (List.replicate (zs.length + 2) []) = y :: List.replicate (zs.length + 1) [] := by simp [List.drop_replicate]
      rw [e4] at ho4
      have hs := own_upd hs hp4 ho4 (n2 := zs.length + 2) (by simp) (fun _ y => .inl y)
      refine st 2 [] ?_
      obtain ⟨hs0, bk0⟩ := hs.call tk3 .n
      have hs := hs0
      refine k_regD hs0 8 ?_
      refine aRun [0, 1, 2, 3] 5 hs.keep ?_
      refine aP 4 (.slice (some ⟨b3, 0 + 1, none⟩) (zs.length + 2 - 1) (p3 - 1)) rfl (pXl (e := 22) (k1 := .i64) 1 (by omega) hle3 (by omega)) hs.keep ?_
      refine aRun [5, 6] 2 hs.keep ?_
      refine aP 7 (.slice (some ⟨b, o + 0, none⟩) ((z :: zs).length - 0) (p1 - 0)) rfl (pXl (e := 22) (k1 := .i64) 0 (by omega) (by simp only [List.length_cons]; omega) (by omega)) hs.keep ?_
      replace hs := bk0 hs ct3 rfl
      obtain ⟨cz, tz, fz, hbz, _, hfz, _, rz⟩ := (hs.g d1).1.1.reps _ rfl (by omega)
      refine aOL 8 rfl (owp_copyAt (e := 22) (T := tSl (tInt .u8)) (G := (Cl.i).G E.B I) (I := I) (b := b3) (o := 0) (b2 := b) (o2 := o + 0) (cap := p3) (dn := zs.length + 2 - 1) (dc := p3 - 1) (sn := (z :: zs).length - 0) (sc := p1 - 0) (p := 1) (l := y :: List.replicate (zs.length + 1) []) (m := z :: zs) (cs := Sx.seg cz o ((z :: zs).length * (tSl (tInt .u8)).size))
        (by kernel_rfl) (by kernel_rfl) rfl hs.bd hs.bdG (hs.ow d0) (hs.notG d0 _ ⟨_, rfl, rfl⟩) rz (fun w hw => cells_at (by rw [hw]; exact hbz)) (by simp) (by simp only [List.length_cons]; omega)
        (by simp only [List.length_cons, Nat.min_def]; split <;> omega) (by kernel_rfl) (by kernel_rfl) ?_)
      intro h5 hp5 ho5
      have e5 : List.take 1 (y :: List.replicate (zs.length + 1) ([] : List Int)) ++ (z :: zs) ++ List.drop (1 + (z :: zs).length) (y :: List.replicate (zs.length + 1) []) = y :: z :: zs := by
        rw [List.drop_eq_nil_of_le (by simp; omega)]; simp
      rw [e5] at ho5
      have hs := own_upd hs hp5 ho5 (n2 := zs.length + 2) (by simp) (fun _ y => .inl y)
      refine aEnd ?_
      refine st 5 [] ?_
      refine k_retQ ?_
      exact ⟨_, by kernel_rfl, I, _, ⟨some ⟨b3, 0, none⟩, p3, zs.length + 2, rfl, rfl⟩, hs.pk (.c d0 .n)⟩
    · clear H0
      have hk : zs.length + 2 ≤ p1 := by rw [hw] at c; omega
      refine st 8 [false] (k_val (.int .i64 ((zs.length + 2 : Nat) : Int)) (pr_eq (v := .int .i64 (w64 ((((z :: zs).length : Nat) : Int) + ((([y] : List (List Int)).length : Nat) : Int)))) (by kernel_rfl) (by rw [hw])) ?_)
      refine k_val (.slice (some ⟨b, o, none⟩) (zs.length + 2) p1) (pXh (e := 22) (k2 := .i64) (n := (z :: zs).length) (zs.length + 2) hk (by omega)) ?_
      refine st 10 [] (k_val (.slice (some ⟨b, o + 1, none⟩) (zs.length + 2 - 1) (p1 - 1)) (pXl (e := 22) (k1 := .i64) 1 (by omega) hk (by omega)) ?_)
      refine k_op (owp_ovl (tS := 65) (tR := 4) (e := 22) (size := 1) (a := ⟨b2, o2, none⟩) (b := ⟨b, o + 1, none⟩) (la := 1) (ca := p2) (lb := zs.length + 2 - 1) (cb := p1 - 1) Tryd.func55 (by kernel_rfl) (by kernel_rfl) (by kernel_rfl) (by kernel_rfl) (by kernel_rfl) (by kernel_rfl) hne hb2 hb0 (by omega) (by kernel_rfl) (by kernel_rfl) ?_)
      refine st 4 [true] ?_
      obtain ⟨hs0, bk0⟩ := hs.call tk2 .n
      have hs := hs0
      refine k_regD hs0 8 ?_
      refine aRun [0, 1, 2, 3] 5 hs.keep ?_
      refine aP 4 (.slice (some ⟨b, o + 1, none⟩) (zs.length + 2 - 1) (p1 - 1)) rfl (pXl (e := 22) (k1 := .i64) 1 (by omega) hk (by omega)) hs.keep ?_
      refine aRun [5, 6] 2 hs.keep ?_
      refine aP 7 (.slice (some ⟨b, o + 0, none⟩) (zs.length + 2 - 0) (p1 - 0)) rfl (pXl (e := 22) (k1 := .i64) 0 (by omega) hk (by omega)) hs.keep ?_
      replace hs := bk0 hs ct2 rfl
      obtain ⟨cz, tz, fz, hbz, _, hfz, _, rz⟩ := (hs.g d0).1.1.reps _ rfl (by omega)
      refine aOL 8 rfl (owp_copyAt (e := 22) (T := tSl (tInt .u8)) (G := (Cl.i).G E.B I) (I := I) (b := b) (o := o) (b2 := b) (o2 := o + 0) (cap := p1) (dn := zs.length + 2 - 1) (dc := p1 - 1) (sn := zs.length + 2 - 0) (sc := p1 - 0) (p := 1) (l := z :: zs) (m := z :: zs) (cs := Sx.seg cz o ((z :: zs).length * (tSl (tInt .u8)).size))
        (by kernel_rfl) (by kernel_rfl) rfl hs.bd hs.bdG (hs.ow d0) (hs.notG d0 _ ⟨_, rfl, rfl⟩) rz (fun w hw => cells_at (by rw [hw]; exact hbz)) (by simp) (by simp only [List.length_cons]; omega)
        (by simp only [List.length_cons, Nat.min_def]; split <;> omega) (by kernel_rfl) (by kernel_rfl) ?_)
      intro h5 hp5 ho5
      have e5 : List.take 1 (z :: zs) ++ (z :: zs) ++ List.drop (1 + (z :: zs).length) (z :: zs) = z :: z :: zs := by
        rw [List.drop_eq_nil_of_le (by simp)]; simp
      rw [e5] at ho5
      have hs := own_upd hs hp5 ho5 (n2 := zs.length + 2) (by simp) (fun _ y => .inl y)
      refine aEnd ?_
      refine st 4 [] (k_val (.slice (some ⟨b, o + 0, none⟩) (zs.length + 2 - 0) (p1 - 0)) (pXl (e := 22) (k1 := .i64) 0 (by omega) hk (by omega)) ?_)
      obtain ⟨cy, ty, fy, hby, _, hfy, _, ry⟩ := (hs.g d1).1.1.reps _ rfl (by omega)
      refine st 1 [] (k_op (owp_copyAt (e := 22) (T := tSl (tInt .u8)) (G := (Cl.i).G E.B I) (I := I) (b := b) (o := o) (b2 := b2) (o2 := o2) (cap := p1) (dn := zs.length + 2 - 0) (dc := p1 - 0) (sn := 1) (sc := p2) (p := 0) (l := z :: z :: zs) (m := [y]) (cs := Sx.seg cy o2 (([y] : List (List Int)).length * (tSl (tInt .u8)).size))
        (by kernel_rfl) (by kernel_rfl) rfl hs.bd hs.bdG (hs.ow d0) (hs.notG d0 _ ⟨_, rfl, rfl⟩) ry (fun w hw => cells_at (by rw [hw]; exact hby)) (by simp) (by simp only [List.length_cons, List.length_nil]; omega)
        (by simp only [List.length_cons, List.length_nil]; simp only [Nat.min_def]; split <;> omega) (by kernel_rfl) (by kernel_rfl) ?_))
      intro h6 hp6 ho6
      have e6 : List.take 0 (z :: z :: zs) ++ [y] ++ List.drop (0 + ([y] : List (List Int)).length) (z :: z :: zs) = y :: z :: zs := rfl
      rw [e6] at ho6
      have hs := own_upd hs hp6 ho6 (n2 := zs.length + 2) (by simp) (fun _ y => .inl y)
      refine st 6 [] ?_
      refine k_retQ ?_
      exact ⟨_, by kernel_rfl, I, _, ⟨some ⟨b, o, none⟩, p1, zs.length + 2, rfl, rfl⟩, hs.pk (.c d0 .n)⟩

/-! slices.Clone[[][]byte,[]byte] -/
def slices_Clone_byte.m (x0 : (List (List Int))) : Option (List (List Int)) :=
  ((app [] x0).bind fun l29 => (some l29))

theorem slices_Clone_byte.calls {B I : Gh} {h : Heap} {x0 : (List (List Int))} {a21 : Option Addr} {p22 : Nat} {n23 : Nat} {r : (List (List Int))} (H : slices_Clone_byte.m x0 = some r)  :
    Fc Tryd.prog 46 #[.slice a21 n23 p22] [rR (tSl (tInt .u8)) .i a21 p22 n23 x0] B I h (fun v L => ∃ (a34 : Option Addr) (p35 : Nat) (n36 : Nat), v = .slice a34 n36 p35 ∧ L = [rO (tSl (tInt .u8)) .i a34 p35 n36 r]) := by
 refine fc_of fun E hs => ?_
 unfold slices_Clone_byte.m at H
 obtain rfl := hs.nR d0
 refine fn_of (args := [.slice a21 x0.length p22]) (rs := [.tmp 2]) (N := 8) Tryd.func46 rfl rfl rfl rfl ?_
 rcases a21 with _ | ad25
 ·have e26 := ((hs.sR d0).toSl.nil rfl).1
  replace H : (some []) = some r := by simpa [app, Lim, e26] using H
  refine st 15 [true] ?_
  refine k_retQ ?_
  obtain rfl := Option.some.inj H
  exact ⟨_, by kernel_rfl, I, _, ⟨none, 0, 0, rfl, rfl⟩, hs.pk (.f imON .n)⟩
 ·refine st 14 [false] (k_op (nS (e := 22) hs .i (tSl (tInt .u8)) ([] : List (List Int)) [] 1 (.slice none 0 0) (.nil : Reps (tSl (tInt .u8)) (Cl.G .i E.B I) h [] []) ?_))
  intro b27 h hs
  obtain ⟨l29, m30, H⟩ := bind_some H
  refine st 1 [] (k_op (aO (e := 22) (bytes := 24) hs (hs.sR d1) m30 ?_))
  intro a31 p32 h hs
  refine st 2 [] ?_
  refine k_retQ ?_
  obtain rfl := Option.some.inj H
  exact ⟨_, by kernel_rfl, I, _, ⟨a31, p32, l29.length, rfl, rfl⟩, hs.pk (.c d0 .n)⟩

/-! shutter/mac.turned -/
def mac_turned.l1.m (K : Nat) (x1 : Int) (l41 : List Int) : Nat → (List Int) → Int → Option ((List Int))
  | 0, _, _ => none
  | k + 1, x45, x50 => (letJ (α := Bool → Option ((List Int))) (fun (x60 : Bool) => (bif x60 then (if 0 ≤ x50 then (if x50 < (x45.length : Int) then (mac_turned.l1.m K x1 l41 k (x45.set x50.toNat (bXor .u8 (at_ x45 x50) x1)) (w64 (x50 + 1))) else none) else none) else (some (x45)))) fun (j61 : Bool → Option ((List Int))) => (if x50 < (l41.length : Int) then (j61 true) else (j61 false)))
def mac_turned.m (K : Nat) (x0 : (List Int)) (x1 : Int) : Option (List Int) :=
  (letJ (α := (List Int) → Option (List Int)) (fun (x35 : List Int) => ((mk 64 0).bind fun l41 => ((mac_turned.l1.m K x1 l41 K (cpy l41 x35) 0).bind fun x52 => (some x52)))) fun (j40 : (List Int) → Option (List Int)) => (letJ (α := Bool → Option (List Int)) (fun (x26 : Bool) => (bif x26 then ((hash_Of.m K [x0]).bind fun t30 => (j40 t30)) else (j40 x0))) fun (j27 : Bool → Option (List Int)) => (if (x0.length : Int) > 64 then (j27 true) else (j27 false))))

theorem mac_turned.calls {B I : Gh} {h : Heap} {K : Nat} {x0 : (List Int)} {x1 : Int} {a21 : Option Addr} {p22 : Nat} {n23 : Nat} {r : (List Int)} (H : mac_turned.m K x0 x1 = some r)  :
    Fc Tryd.prog 47 #[.slice a21 n23 p22, .int .u8 x1] [rR (tInt .u8) .b a21 p22 n23 x0] B I h (fun v L => ∃ (a69 : Option Addr) (p70 : Nat) (n71 : Nat), v = .slice a69 n71 p70 ∧ L = [rO (tInt .u8) .i a69 p70 n71 r]) := by
 refine fc_of fun E hs => ?_
 unfold mac_turned.m at H
 obtain rfl := hs.nR d0
 refine fn_of (args := [.slice a21 x0.length p22, .int .u8 x1]) (rs := [.tmp 4]) (N := 33) Tryd.func47 rfl rfl rfl rfl ?_
 refine st 5 [] ?_
 obtain ⟨j40, e68, H⟩ := letJ_some H
 refine k_join (fun ρ h => ∃ (x35 : List Int) (a36 : Option Addr) (p37 : Nat) (n38 : Nat) (I : Gh), j40 x35 = some r ∧ Fits [(0, .slice a36 n38 p37), (1, .int .u8 x1)] ρ ∧ St E [rR (tInt .u8) .b a36 p37 n38 x35] I h) ?_ ?_
 ·refine st 1 [] ?_
  obtain ⟨j27, e34, H⟩ := letJ_some H
  refine k_join (fun ρ h => ∃ (x26 : Bool) (I : Gh), j27 x26 = some r ∧ Fits [(0, .slice a21 x0.length p22), (1, .int .u8 x1), (10, .bool x26)] ρ ∧ St E [rR (tInt .u8) .b a21 p22 x0.length x0] I h) ?_ ?_
  ·refine st 3 [] (k_ite H (fun c25 H => ?_) (fun c25 H => ?_))
   ·refine st 1 [] ?_
    exact k_end ⟨true, I, H, ⟨by kernel_rfl, by kernel_rfl, by kernel_rfl, trivial⟩, hs.pk (.c d0 .n)⟩
   ·refine st 1 [] ?_
    exact k_end ⟨false, I, H, ⟨by kernel_rfl, by kernel_rfl, by kernel_rfl, trivial⟩, hs.pk (.c d0 .n)⟩
  ·clear H
   rintro ρ h ⟨x26, I, H, hf, hs⟩
   refine k_fits _ hf ?_ rfl
   subst e34
   try dsimp only at H
   cases x26
   ·rw [cond_false] at H
    refine st 2 [false] ?_
    exact k_end ⟨x0, a21, p22, x0.length, I, H, ⟨by kernel_rfl, by kernel_rfl, trivial⟩, hs.pk (.c d0 .n)⟩
   ·rw [cond_true] at H
    have hz := hs
    obtain ⟨I, hs⟩ := hs.all (.r .n)
    refine st 4 [true] (k_op (nS (e := 22) hs .i (tSl (tInt .u8)) ([x0] : List (List Int)) [.slice a21 x0.length p22] 1 (.slice none 0 0) (Reps.cons (T := (tSl (tInt .u8))) (c := [.slice a21 x0.length p22]) (x := x0) ⟨_, _, _, rfl, (hs.g d0)⟩ (.nil : Reps (tSl (tInt .u8)) (Cl.G .i E.B I) h [] [])) ?_))
    intro b28 h hs
    obtain ⟨hk, bk⟩ := hs.call tk0 (.c (qO d0) .n)
    refine k_call H (fun _ m => hash_Of.calls m hk) ?_
    rintro t30 _ h H ⟨I, _, ⟨rfl, rfl, hl31⟩, hk⟩
    replace hs := bk hk ct0 rfl
    obtain ⟨I, hs⟩ : ∃ I, St E _ I _ := ⟨_, hz.back hs⟩
    refine k_op (nA hs (List.map (Value.int .u8) (List.replicate 32 (0 : Int))) (.agg (List.map (Value.int .u8) (List.replicate 32 (0 : Int))).toArray) ?_)
    intro b32 h hs
    refine k_op (sAN (l2 := t30) hs (List.length_replicate (n := 32) (a := (0 : Int))) hl31 ?_)
    intro h hs
    obtain ⟨I, hs⟩ := hs.fA hl31
    refine st 5 [] ?_
    exact k_end ⟨t30, (some ⟨b32, 0, none⟩), 32, 32, I, H, ⟨by kernel_rfl, by kernel_rfl, trivial⟩, hs.pk (.w d0 imIB .n)⟩
 ·clear H
  rintro ρ h ⟨x35, a36, p37, n38, I, H, hf, hs⟩
  refine k_fits _ hf ?_ rfl
  subst e68
  try dsimp only at H
  obtain rfl := hs.nR d0
  obtain ⟨l41, m42, H⟩ := bind_some H
  refine st 2 [] (k_op (nM (e := 5) (kl := .i64) (kc := .i64) (bytes := 1) hs (tInt .u8) 0 (.int .u8 0) m42 (fun _ _ => rfl) ?_))
  intro b43 h hs
  refine st 6 [] (k_op (cO (e := 5) hs ((hs.sR d1).flat flat_int) ?_))
  intro h hs
  refine st 9 [] ?_
  obtain ⟨s51, m58, HR57⟩ := bind_some H
  refine k_loop 0 (fun k' ρ h => ∃ (x45 : List Int) (x50 : Int) (a46 : Option Addr) (p47 : Nat) (n48 : Nat) (I : Gh), mac_turned.l1.m K x1 l41 k' x45 x50 = some s51 ∧ Fits [(1, .int .u8 x1), (6, .slice a46 n48 p47), (20, .int .i64 (l41.length : Int)), (21, .int .i64 x50)] ρ ∧ St E [rO (tInt .u8) .i a46 p47 n48 x45] I h) (fun ρ h => ∃ (x52 : List Int) (a53 : Option Addr) (p54 : Nat) (n55 : Nat) (I : Gh), x52 = s51 ∧ Fits [(6, .slice a53 n55 p54)] ρ ∧ St E [rO (tInt .u8) .i a53 p54 n55 x52] I h) K ⟨(cpy l41 x35), 0, (some ⟨b43, 0, none⟩), l41.length, l41.length, I, m58, ⟨by kernel_rfl, by kernel_rfl, by kernel_rfl, by kernel_rfl, trivial⟩, hs.pk (.c d0 .n)⟩ ?_ rfl ?_
  ·clear HR57 m58 H
   rintro k' ρ h ⟨x45, x50, a46, p47, n48, I, H, hf, hs⟩
   cases k' with
   | zero => cases H
   | succ k =>
    rw [mac_turned.l1.m] at H
    refine k_fits _ hf ?_ rfl
    obtain rfl := hs.nO d0
    refine st 1 [] ?_
    obtain ⟨j61, e67, H⟩ := letJ_some H
    refine k_join (fun ρ h => ∃ (x60 : Bool) (I : Gh), j61 x60 = some s51 ∧ Fits [(1, .int .u8 x1), (6, .slice a46 x45.length p47), (20, .int .i64 (l41.length : Int)), (21, .int .i64 x50), (22, .bool x60)] ρ ∧ St E [rO (tInt .u8) .i a46 p47 x45.length x45] I h) ?_ ?_
    ·refine st 1 [] (k_ite H (fun c59 H => ?_) (fun c59 H => ?_))
     ·refine st 1 [] ?_
      exact k_end ⟨true, I, H, ⟨by kernel_rfl, by kernel_rfl, by kernel_rfl, by kernel_rfl, by kernel_rfl, trivial⟩, hs.pk (.c d0 .n)⟩
     ·refine st 1 [] ?_
      exact k_end ⟨false, I, H, ⟨by kernel_rfl, by kernel_rfl, by kernel_rfl, by kernel_rfl, by kernel_rfl, trivial⟩, hs.pk (.c d0 .n)⟩
    ·clear H
     rintro ρ h ⟨x60, I, H, hf, hs⟩
     refine k_fits _ hf ?_ rfl
     subst e67
     try dsimp only at H
     cases x60
     ·rw [cond_false] at H
      refine st 2 [false] ?_
      refine k_out rfl ?_
      obtain rfl := Option.some.inj H
      exact xE ⟨x45, a46, p47, x45.length, I, rfl, ⟨by kernel_rfl, trivial⟩, hs.pk (.c d0 .n)⟩
     ·rw [cond_true] at H
      obtain ⟨c62, H⟩ := guard_pos H
      obtain ⟨c63, H⟩ := guard_pos H
      refine st 13 [true] (k_val (elemPtr a46 (x50.toNat * 1)) (pI (e := 5) (ik := .i64) (hs.sO d0) c62 c63) ?_)
      refine k_op (lC ((hs.sO d0).cell1 c62 c63) ?_)
      refine st 2 [] (k_val (elemPtr a46 (x50.toNat * 1)) (pI (e := 5) (ik := .i64) (hs.sO d0) c62 c63) ?_)
      obtain ⟨y65, g64, q66⟩ := (hs.sO d0).toSl.seg c62 c63
      obtain rfl := rep_int q66
      refine k_op (sE hs 0 [.int .u8 (bXor .u8 (at_ x45 x50) x1)] (bXor .u8 (at_ x45 x50) x1) c62 c63 g64 (ones_of rfl) rfl ?_)
      intro h hs
      refine st 6 [] ?_
      exact k_endL ⟨k, Nat.lt_succ_self _, (x45.set x50.toNat (bXor .u8 (at_ x45 x50) x1)), (w64 (x50 + 1)), a46, p47, x45.length, I, H, ⟨by kernel_rfl, by kernel_rfl, by kernel_rfl, by kernel_rfl, trivial⟩, hs.pk (.c d0 .n)⟩
  ·rintro ρ h ⟨x52, a53, p54, n55, I, rfl, hf, hs⟩
   have H := HR57
   try dsimp only at H
   refine k_fits _ hf ?_ rfl
   obtain rfl := hs.nO d0
   refine st 5 [] ?_
   refine k_retQ ?_
   obtain rfl := Option.some.inj H
   exact ⟨_, by kernel_rfl, I, _, ⟨a53, p54, x52.length, rfl, rfl⟩, hs.pk (.c d0 .n)⟩

/-! shutter/mac.Code -/
def mac_Code.m (K : Nat) (x0 : (List Int)) (x1 : (List (List Int))) : Option (List Int) :=
  ((slices_Clone_byte.m x1).bind fun t30 => ((mac_turned.m K x0 54).bind fun t35 => ((slices_Insert_byte.m t30 0 [t35]).bind fun t42 => ((hash_Of.m K t42).bind fun t47 => ((mac_turned.m K x0 92).bind fun t51 => ((hash_Of.m K [t51, t47]).bind fun t58 => (some t58)))))))

theorem mac_Code.calls {B I : Gh} {h : Heap} {K : Nat} {x0 : (List Int)} {x1 : (List (List Int))} {a21 : Option Addr} {p22 : Nat} {n23 : Nat} {a25 : Option Addr} {p26 : Nat} {n27 : Nat} {r : (List Int)} (H : mac_Code.m K x0 x1 = some r)  :
    Fc Tryd.prog 35 #[.slice a21 n23 p22, .slice a25 n27 p26] [rR (tInt .u8) .b a21 p22 n23 x0, rR (tSl (tInt .u8)) .i a25 p26 n27 x1] B I h (fun v L => v = .agg (List.map (Value.int .u8) r).toArray ∧ L = [] ∧ List.length r = 32) := by
 refine fc_of fun E hs => ?_
 unfold mac_Code.m at H
 obtain rfl := hs.nR d0
 obtain rfl := hs.nR d1
 refine fn_of2 (args := [.slice a21 x0.length p22, .slice a25 x1.length p26]) (rs := [.cell 4 66]) (N := 18) Tryd.func35 rfl rfl rfl rfl ?_
 refine st 2 [] (k_op (nA hs (List.map (Value.int .u8) (List.replicate 32 (0 : Int))) (.agg (List.map (Value.int .u8) (List.replicate 32 (0 : Int))).toArray) ?_))
 intro b29 h hs
 obtain ⟨hk, bk⟩ := hs.call tk0 (.c (qK d2) .n)
 refine st 4 [] (k_call H (fun _ m => slices_Clone_byte.calls m hk) ?_)
 rintro t30 _ h H ⟨I, _, ⟨a31, p32, n33, rfl, rfl⟩, hk⟩
 replace hs := bk hk ct1 rfl
 obtain rfl := hs.nO d0
 obtain ⟨hk, bk⟩ := hs.call tk0 (.c (qB d2) .n)
 refine st 1 [] (k_call H (fun _ m => mac_turned.calls m hk) ?_)
 rintro t35 _ h H ⟨I, _, ⟨a36, p37, n38, rfl, rfl⟩, hk⟩
 replace hs := bk hk ct1 rfl
 obtain rfl := hs.nO d0
 obtain ⟨I, hs⟩ := hs.fO
 refine k_op (nS (e := 22) hs .i (tSl (tInt .u8)) ([t35] : List (List Int)) [.slice a36 t35.length p37] 1 (.slice none 0 0) (Reps.cons (T := (tSl (tInt .u8))) (c := [.slice a36 t35.length p37]) (x := t35) ⟨_, _, _, rfl, (hs.g d0)⟩ (.nil : Reps (tSl (tInt .u8)) (Cl.G .i E.B I) h [] [])) ?_)
 intro b40 h hs
 obtain ⟨hk, bk⟩ := (hs.f d2).call tk2 .n
 refine k_call H (fun _ m => slices_Insert_byte.calls m hk) ?_
 rintro t42 _ h H ⟨I, _, ⟨a43, p44, n45, rfl, rfl⟩, hk⟩
 replace hs := bk hk ct1 rfl
 obtain rfl := hs.nO d0
 obtain ⟨hk, bk⟩ := hs.call tk0 (.c (qO d0) .n)
 refine k_call H (fun _ m => hash_Of.calls m hk) ?_
 rintro t47 _ h H ⟨I, _, ⟨rfl, rfl, hl48⟩, hk⟩
 replace hs := bk hk ct0 rfl
 refine k_op (nA hs (List.map (Value.int .u8) (List.replicate 32 (0 : Int))) (.agg (List.map (Value.int .u8) (List.replicate 32 (0 : Int))).toArray) ?_)
 intro b49 h hs
 refine k_op (sAN (l2 := t47) hs (List.length_replicate (n := 32) (a := (0 : Int))) hl48 ?_)
 intro h hs
 refine st 2 [] ?_
 obtain ⟨I, hs⟩ := hs.fA hl48
 obtain ⟨hs0, bk0⟩ := hs.call tk0 (.c (qK d0) (.c (qB d4) .n))
 have hs := hs0
 refine k_regD hs0 5 ?_
 refine aRun [0, 2] 4 hs.keep ?_
 obtain ⟨hk, bk⟩ := hs.call tk0 (.c (qB d1) .n)
 refine aO1 1 rfl (o_call H (fun _ m => mac_turned.calls m hk) ?_)
 rintro t51 _ h H ⟨I, _, ⟨a52, p53, n54, rfl, rfl⟩, hk⟩
 replace hs := bk hk ct1 rfl
 obtain rfl := hs.nO d0
 refine ⟨hs.keep, ?_⟩
 obtain ⟨I, hs⟩ := hs.fO
 refine aO1 3 rfl (nS (e := 22) hs .i (tSl (tInt .u8)) ([t51, t47] : List (List Int)) [.slice a52 t51.length p53, .slice (some ⟨b49, 0, none⟩) 32 32] 1 (.slice none 0 0) (Reps.cons (T := (tSl (tInt .u8))) (c := [.slice a52 t51.length p53]) (x := t51) ⟨_, _, _, rfl, (hs.g d0)⟩ (Reps.cons (T := (tSl (tInt .u8))) (c := [.slice (some ⟨b49, 0, none⟩) 32 32]) (x := t47) ⟨_, _, _, rfl, (hs.g d1)⟩ (.nil : Reps (tSl (tInt .u8)) (Cl.G .i E.B I) h [] []))) ?_)
 intro b56 h hs
 refine ⟨hs.keep, ?_⟩
 obtain ⟨hk, bk⟩ := hs.call tk0 (.c (qO d0) .n)
 refine aO1 4 rfl (o_call H (fun _ m => hash_Of.calls m hk) ?_)
 rintro t58 _ h H ⟨I, _, ⟨rfl, rfl, hl59⟩, hk⟩
 replace hs := bk hk ct0 rfl
 refine ⟨hs.keep, ?_⟩
 replace hs := hs.pk (.c d0 (.c d0 .n))
 replace hs := bk0 hs ct2 rfl
 refine aOL 5 rfl (sAN (l2 := t58) (hs.f d5) (List.length_replicate (n := 32) (a := (0 : Int))) hl59 ?_)
 intro h hs
 refine aEnd ?_
 refine k_retQ ?_
 obtain rfl := Option.some.inj H
 exact ⟨[.agg (List.map (Value.int .u8) t58).toArray], (.cons (.agg (by kernel_rfl) (by kernel_rfl) (by kernel_rfl) ((hs.bl d0).arrSeg hl59)) .nil), I, _, ⟨rfl, rfl, hl59⟩, hs.pk .n⟩

/-! shutter/mac.Tag -/
def mac_Tag.m (K : Nat) (x0 : (List Int)) (x1 : (List (List Int))) : Option (List Int) :=
  ((mac_Code.m K x0 x1).bind fun t30 => (some (sub t30 0 16)))

theorem mac_Tag.calls {B I : Gh} {h : Heap} {K : Nat} {x0 : (List Int)} {x1 : (List (List Int))} {a21 : Option Addr} {p22 : Nat} {n23 : Nat} {a25 : Option Addr} {p26 : Nat} {n27 : Nat} {r : (List Int)} (H : mac_Tag.m K x0 x1 = some r)  :
    Fc Tryd.prog 23 #[.slice a21 n23 p22, .slice a25 n27 p26] [rR (tInt .u8) .b a21 p22 n23 x0, rR (tSl (tInt .u8)) .i a25 p26 n27 x1] B I h (fun v L => v = .agg (List.map (Value.int .u8) r).toArray ∧ L = [] ∧ List.length r = 16) := by
 refine fc_of fun E hs => ?_
 unfold mac_Tag.m at H
 obtain rfl := hs.nR d0
 obtain rfl := hs.nR d1
 refine fn_of2 (args := [.slice a21 x0.length p22, .slice a25 x1.length p26]) (rs := [.cell 4 50]) (N := 12) Tryd.func23 rfl rfl rfl rfl ?_
 refine st 2 [] (k_op (nA hs (List.map (Value.int .u8) (List.replicate 16 (0 : Int))) (.agg (List.map (Value.int .u8) (List.replicate 16 (0 : Int))).toArray) ?_))
 intro b29 h hs
 obtain ⟨hk, bk⟩ := hs.call tk0 (.c (qB d1) (.c (qK d2) .n))
 refine st 5 [] (k_call H (fun _ m => mac_Code.calls m hk) ?_)
 rintro t30 _ h H ⟨I, _, ⟨rfl, rfl, hl31⟩, hk⟩
 replace hs := bk hk ct0 rfl
 refine k_op (nA hs (List.map (Value.int .u8) (List.replicate 32 (0 : Int))) (.agg (List.map (Value.int .u8) (List.replicate 32 (0 : Int))).toArray) ?_)
 intro b32 h hs
 refine k_op (sAN (l2 := t30) hs (List.length_replicate (n := 32) (a := (0 : Int))) hl31 ?_)
 intro h hs
 obtain ⟨I, hs⟩ := hs.fA hl31
 replace hs := hs.part d0 (lo := 0) (hi := 16) (Int.le_refl 0) (by decide) (by rw [hl31]; decide)
 refine st 3 [] (k_val (.slice (slA (some ⟨b32, 0, none⟩) 32 (Int.toNat (0 : Int)) 1) ((sub t30 0 16).length) (32 - Int.toNat (0 : Int))) (pSA (lo := 0) (hi := 16) 16 (by rw [hl31]; decide)) ?_)
 refine k_val (elemPtr (slA (some ⟨b32, 0, none⟩) 32 (Int.toNat (0 : Int)) 1) 0) (pAP (m := 16) (et := 5) (hs.sR d0) (sub_len (lo := 0) (hi := 16) 16 (by rw [hl31]; decide)) (by decide)) ?_
 refine k_op (lG ((hs.sR d0).segInt (sub_len (lo := 0) (hi := 16) 16 (by rw [hl31]; decide)) (by decide)) ?_)
 refine k_op (sAN (l2 := (sub t30 0 16)) (hs.f d2) (List.length_replicate (n := 16) (a := (0 : Int))) (sub_len (lo := 0) (hi := 16) 16 (by rw [hl31]; decide)) ?_)
 intro h hs
 refine st 1 [] ?_
 refine k_retQ ?_
 obtain rfl := Option.some.inj H
 exact ⟨[.agg (List.map (Value.int .u8) (sub t30 0 16)).toArray], (.cons (.agg (by kernel_rfl) (by kernel_rfl) (by kernel_rfl) ((hs.bl d0).arrSeg (sub_len (lo := 0) (hi := 16) 16 (by rw [hl31]; decide)))) .nil), I, _, ⟨rfl, rfl, (sub_len (lo := 0) (hi := 16) 16 (by rw [hl31]; decide))⟩, hs.pk .n⟩

/-! shutter/frame.Seal -/
def frame_Seal.l1.m (K : Nat) (x1 : api_Frame) : Nat → (List Int) → Int → Option ((List Int))
  | 0, _, _ => none
  | k + 1, x37, x42 => (letJ (α := Bool → Option ((List Int))) (fun (x52 : Bool) => (bif x52 then (if 0 ≤ (w64 (56 - (w64 (8 * x42)))) then ((app x37 [(IntKind.u8.wrap ((shr .i64 x1.Seq (w64 (56 - (w64 (8 * x42)))))))]).bind fun l57 => (frame_Seal.l1.m K x1 k l57 (w64 (x42 + 1)))) else none) else (some (x37)))) fun (j53 : Bool → Option ((List Int))) => (if x42 < 8 then (j53 true) else (j53 false)))
def frame_Seal.m (K : Nat) (x0 : (List Int)) (x1 : api_Frame) : Option ((List Int) × GoErr) :=
  (letJ (α := Bool → Option ((List Int) × GoErr)) (fun (x32 : Bool) => (bif x32 then (some ([], (GoErr.no 1))) else (if (x1.Body.length : Int) > 486 then (some ([], (GoErr.no 6))) else ((frame_Seal.l1.m K x1 K [1, (IntKind.u8.wrap (x1.Dir))] 0).bind fun x44 => ((app x44 x1.Body).bind fun l63 => ((mac_Tag.m K x0 [l63]).bind fun t70 => ((app l63 t70).bind fun l74 => (some (l74, GoErr.nil))))))))) fun (j33 : Bool → Option ((List Int) × GoErr)) => ((frame_sided.m x1.Dir).bind fun t30 => bif t30 then ((frame_numbered.m x1.Seq).bind fun t31 => bif t31 then (j33 false) else (j33 true)) else (j33 true)))

theorem frame_Seal.calls {B I : Gh} {h : Heap} {K : Nat} {x0 : (List Int)} {x1 : api_Frame} {a21 : Option Addr} {p22 : Nat} {n23 : Nat} {a25 : Option Addr} {p26 : Nat} {n27 : Nat} {r : ((List Int) × GoErr)} (H : frame_Seal.m K x0 x1 = some r)  :
    Fc Tryd.prog 10 #[.slice a21 n23 p22, .agg #[.int .i64 x1.Dir, .int .i64 x1.Seq, .slice a25 n27 p26]] [rR (tInt .u8) .b a21 p22 n23 x0, rR (tInt .u8) .b a25 p26 n27 x1.Body] B I h (fun v L => ∃ (a80 : Option Addr) (p81 : Nat) (n82 : Nat) (v84 : Value), v = .tuple #[.slice a80 n82 p81, v84] ∧ L = [rO (tInt .u8) .i a80 p81 n82 r.1, rE .i v84 r.2]) := by
 refine fc_of fun E hs => ?_
 unfold frame_Seal.m at H
 obtain rfl := hs.nR d0
 obtain rfl := hs.nR d1
 refine fn_of (args := [.slice a21 x0.length p22, .agg #[.int .i64 x1.Dir, .int .i64 x1.Seq, .slice a25 x1.Body.length p26]]) (rs := [.tmp 4, .tmp 5]) (N := 56) Tryd.func10 rfl rfl rfl rfl ?_
 refine st 2 [] (k_op (nB hs [.int .i64 x1.Dir, .int .i64 x1.Seq, .slice a25 x1.Body.length p26] ?_))
 intro b29 h hs
 refine st 6 [] ?_
 obtain ⟨j33, e79, H⟩ := letJ_some H
 refine k_join (fun ρ h => ∃ (x32 : Bool) (I : Gh), j33 x32 = some r ∧ Fits [(0, .slice a21 x0.length p22), (3, .pointer (some ⟨b29, 0, none⟩)), (9, .bool x32)] ρ ∧ St E [rR (tInt .u8) .b a21 p22 x0.length x0, rR (tInt .u8) .b a25 p26 x1.Body.length x1.Body, rB b29 [.int .i64 x1.Dir, .int .i64 x1.Seq, .slice a25 x1.Body.length p26] 24] I h) ?_ ?_
 ·refine st 2 [] (k_op (lB (hs.bl d0) 0 rfl ?_))
  refine k_call H (fun _ m => frame_sided.calls m) ?_
  rintro t30 _ _ H ⟨rfl, rfl⟩
  cases t30
  ·rw [cond_false] at H
   refine st 9 [] ?_
   exact k_end ⟨true, I, H, ⟨by kernel_rfl, by kernel_rfl, by kernel_rfl, trivial⟩, hs.pk (.c d1 (.c d1 (.c d0 .n)))⟩
  ·rw [cond_true] at H
   refine st 3 [] (k_op (lB (hs.bl d0) 1 rfl ?_))
   refine k_call H (fun _ m => frame_numbered.calls m) ?_
   rintro t31 _ _ H ⟨rfl, rfl⟩
   cases t31
   ·rw [cond_false] at H
    refine st 4 [] ?_
    exact k_end ⟨true, I, H, ⟨by kernel_rfl, by kernel_rfl, by kernel_rfl, trivial⟩, hs.pk (.c d1 (.c d1 (.c d0 .n)))⟩
   ·rw [cond_true] at H
    refine st 4 [] ?_
    exact k_end ⟨false, I, H, ⟨by kernel_rfl, by kernel_rfl, by kernel_rfl, trivial⟩, hs.pk (.c d1 (.c d1 (.c d0 .n)))⟩
 ·clear H
  rintro ρ h ⟨x32, I, H, hf, hs⟩
  refine k_fits _ hf ?_ rfl
  subst e79
  try dsimp only at H
  cases x32
  ·rw [cond_false] at H
   refine st 4 [false] (k_op (lB (hs.bl d2) 2 rfl ?_))
   refine st 1 [] (k_ite H (fun c34 H => ?_) (fun c34 H => ?_))
   ·refine st 9 [true] ?_
    refine k_retQ ?_
    obtain rfl := Option.some.inj H
    exact ⟨_, by kernel_rfl, I, _, ⟨none, 0, 0, (.iface 49 (.int .i64 6)), rfl, rfl⟩, hs.pk (.f imON (.f imEC .n))⟩
   ·refine st 8 [false] (k_op (lB (hs.bl d2) 0 rfl ?_))
    refine st 1 [] (k_op (nS (e := 5) hs .i (tInt .u8) ([1, (IntKind.u8.wrap (x1.Dir))] : List Int) [.int .u8 1, .int .u8 (IntKind.u8.wrap (x1.Dir))] 1 (.int .u8 0) (Reps.int (I := (Cl.G .i E.B I)) (k := .u8) (l := [1, (IntKind.u8.wrap (x1.Dir))])) ?_))
    intro b35 h hs
    refine st 8 [] ?_
    obtain ⟨s43, m50, HR49⟩ := bind_some H
    refine k_loop 1 (fun k' ρ h => ∃ (x37 : List Int) (x42 : Int) (a38 : Option Addr) (p39 : Nat) (n40 : Nat) (I : Gh), frame_Seal.l1.m K x1 k' x37 x42 = some s43 ∧ Fits [(0, .slice a21 x0.length p22), (3, .pointer (some ⟨b29, 0, none⟩)), (6, .slice a38 n40 p39), (31, .int .i64 x42)] ρ ∧ St E [rR (tInt .u8) .b a21 p22 x0.length x0, rO (tInt .u8) .i a38 p39 n40 x37, rR (tInt .u8) .b a25 p26 x1.Body.length x1.Body, rB b29 [.int .i64 x1.Dir, .int .i64 x1.Seq, .slice a25 x1.Body.length p26] 24] I h) (fun ρ h => ∃ (x44 : List Int) (a45 : Option Addr) (p46 : Nat) (n47 : Nat) (I : Gh), x44 = s43 ∧ Fits [(0, .slice a21 x0.length p22), (3, .pointer (some ⟨b29, 0, none⟩)), (6, .slice a45 n47 p46)] ρ ∧ St E [rR (tInt .u8) .b a21 p22 x0.length x0, rO (tInt .u8) .i a45 p46 n47 x44, rR (tInt .u8) .b a25 p26 x1.Body.length x1.Body, rB b29 [.int .i64 x1.Dir, .int .i64 x1.Seq, .slice a25 x1.Body.length p26] 24] I h) K ⟨[1, (IntKind.u8.wrap (x1.Dir))], 0, (some ⟨b35, 0, none⟩), 2, 2, I, m50, ⟨by kernel_rfl, by kernel_rfl, by kernel_rfl, by kernel_rfl, trivial⟩, hs.pk (.c d1 (.c d0 (.c d0 (.c d0 .n))))⟩ ?_ rfl ?_
    ·clear HR49 m50 H
     rintro k' ρ h ⟨x37, x42, a38, p39, n40, I, H, hf, hs⟩
     cases k' with
     | zero => cases H
     | succ k =>
      rw [frame_Seal.l1.m] at H
      refine k_fits _ hf ?_ rfl
      obtain rfl := hs.nO d1
      refine st 1 [] ?_
      obtain ⟨j53, e62, H⟩ := letJ_some H
      refine k_join (fun ρ h => ∃ (x52 : Bool) (I : Gh), j53 x52 = some s43 ∧ Fits [(0, .slice a21 x0.length p22), (3, .pointer (some ⟨b29, 0, none⟩)), (6, .slice a38 x37.length p39), (31, .int .i64 x42), (32, .bool x52)] ρ ∧ St E [rR (tInt .u8) .b a21 p22 x0.length x0, rO (tInt .u8) .i a38 p39 x37.length x37, rR (tInt .u8) .b a25 p26 x1.Body.length x1.Body, rB b29 [.int .i64 x1.Dir, .int .i64 x1.Seq, .slice a25 x1.Body.length p26] 24] I h) ?_ ?_
      ·refine st 1 [] (k_ite H (fun c51 H => ?_) (fun c51 H => ?_))
       ·refine st 1 [] ?_
        exact k_end ⟨true, I, H, ⟨by kernel_rfl, by kernel_rfl, by kernel_rfl, by kernel_rfl, by kernel_rfl, trivial⟩, hs.pk (.c d0 (.c d0 (.c d0 (.c d0 .n))))⟩
       ·refine st 1 [] ?_
        exact k_end ⟨false, I, H, ⟨by kernel_rfl, by kernel_rfl, by kernel_rfl, by kernel_rfl, by kernel_rfl, trivial⟩, hs.pk (.c d0 (.c d0 (.c d0 (.c d0 .n))))⟩
      ·clear H
       rintro ρ h ⟨x52, I, H, hf, hs⟩
       refine k_fits _ hf ?_ rfl
       subst e62
       try dsimp only at H
       cases x52
       ·rw [cond_false] at H
        refine st 2 [false] ?_
        refine k_out rfl ?_
        obtain rfl := Option.some.inj H
        exact xE ⟨x37, a38, p39, x37.length, I, rfl, ⟨by kernel_rfl, by kernel_rfl, by kernel_rfl, trivial⟩, hs.pk (.c d0 (.c d0 (.c d0 (.c d0 .n))))⟩
       ·rw [cond_true] at H
        refine st 13 [true] (k_op (lB (hs.bl d3) 1 rfl ?_))
        obtain ⟨c54, H⟩ := guard_pos H
        refine st 3 [] (k_val (.int .i64 (shr .i64 x1.Seq (w64 (56 - (w64 (8 * x42)))))) (pr_shr (k := .i64) (yk := .i64) (a := x1.Seq) (b := (w64 (56 - (w64 (8 * x42))))) (by kernel_rfl) (by kernel_rfl) c54) ?_)
        refine st 1 [] (k_op (nS (e := 5) hs .i (tInt .u8) ([(IntKind.u8.wrap ((shr .i64 x1.Seq (w64 (56 - (w64 (8 * x42)))))))] : List Int) [.int .u8 (IntKind.u8.wrap ((shr .i64 x1.Seq (w64 (56 - (w64 (8 * x42)))))))] 1 (.int .u8 0) (Reps.int (I := (Cl.G .i E.B I)) (k := .u8) (l := [(IntKind.u8.wrap ((shr .i64 x1.Seq (w64 (56 - (w64 (8 * x42)))))))])) ?_))
        intro b55 h hs
        replace hs := (hs.f d2)
        obtain ⟨l57, m58, H⟩ := bind_some H
        refine k_op (aO (e := 5) (bytes := 1) hs (hs.sO d1) m58 ?_)
        intro a59 p60 h hs
        refine st 7 [] ?_
        exact k_endL ⟨k, Nat.lt_succ_self _, l57, (w64 (x42 + 1)), a59, p60, l57.length, I, H, ⟨by kernel_rfl, by kernel_rfl, by kernel_rfl, by kernel_rfl, trivial⟩, hs.pk (.c d2 (.c d0 (.c d1 (.c d1 .n))))⟩
    ·rintro ρ h ⟨x44, a45, p46, n47, I, rfl, hf, hs⟩
     have H := HR49
     try dsimp only at H
     refine k_fits _ hf ?_ rfl
     obtain rfl := hs.nO d1
     refine st 4 [] (k_op (lB (hs.bl d3) 2 rfl ?_))
     replace hs := (hs.f d1)
     obtain ⟨l63, m64, H⟩ := bind_some H
     refine k_op (aO (e := 5) (bytes := 1) hs ((hs.sR d2).flat flat_int) m64 ?_)
     intro a65 p66 h hs
     have hz := hs
     obtain ⟨I, hs⟩ := hs.all (.o (.r (.r (.d .n))))
     refine st 6 [] (k_op (nS (e := 22) hs .i (tSl (tInt .u8)) ([l63] : List (List Int)) [.slice a65 l63.length p66] 1 (.slice none 0 0) (Reps.cons (T := (tSl (tInt .u8))) (c := [.slice a65 l63.length p66]) (x := l63) ⟨_, _, _, rfl, (hs.g d0)⟩ (.nil : Reps (tSl (tInt .u8)) (Cl.G .i E.B I) h [] [])) ?_))
     intro b68 h hs
     obtain ⟨I, hs⟩ := hs.fO
     obtain ⟨hk, bk⟩ := hs.call tk0 (.c (qI d2) (.c (qK d0) .n))
     refine k_call H (fun _ m => mac_Tag.calls m hk) ?_
     rintro t70 _ h H ⟨I, _, ⟨rfl, rfl, hl71⟩, hk⟩
     replace hs := bk hk ct0 rfl
     obtain ⟨I, hs⟩ : ∃ I, St E _ I _ := ⟨_, hz.back hs⟩
     refine k_op (nA hs (List.map (Value.int .u8) (List.replicate 16 (0 : Int))) (.agg (List.map (Value.int .u8) (List.replicate 16 (0 : Int))).toArray) ?_)
     intro b72 h hs
     refine k_op (sAN (l2 := t70) hs (List.length_replicate (n := 16) (a := (0 : Int))) hl71 ?_)
     intro h hs
     obtain ⟨I, hs⟩ := hs.fA hl71
     replace hs := (hs.f d1)
     obtain ⟨l74, m75, H⟩ := bind_some H
     refine st 5 [] (k_op (aO (e := 5) (bytes := 1) hs (hs.sR d1) m75 ?_))
     intro a76 p77 h hs
     refine st 3 [] ?_
     refine k_retQ ?_
     obtain rfl := Option.some.inj H
     exact ⟨_, by kernel_rfl, I, _, ⟨a76, p77, l74.length, (.nilIface), rfl, rfl⟩, hs.pk (.c d0 (.f imEN .n))⟩
  ·rw [cond_true] at H
   refine st 7 [true] ?_
   refine k_retQ ?_
   obtain rfl := Option.some.inj H
   exact ⟨_, by kernel_rfl, I, _, ⟨none, 0, 0, (.iface 49 (.int .i64 1)), rfl, rfl⟩, hs.pk (.f imON (.f imEC .n))⟩

/-! shutter/api.Code -/
def api_Code.m (x0 : GoErr) : Option Int := some (codeOf x0)
theorem api_Code.calls {B I : Gh} {h : Heap} {x0 : GoErr} {v1 : Value} {r : Int} (H : api_Code.m x0 = some r) : Fc Tryd.prog 12 #[v1] [rE .b v1 x0, rG] B I h (fun v L => v = .int .i64 r ∧ L = []) :=
  Code_fc (Option.some.inj H)

/-! shutter/mac.Equal -/
def mac_Equal.l1.m (K : Nat) (x0 : (List Int)) (x1 : (List Int)) : Nat → Int → Int → Option (Int)
  | 0, _, _ => none
  | k + 1, x32, x33 => (letJ (α := Bool → Option (Int)) (fun (x39 : Bool) => (bif x39 then (if 0 ≤ x33 then (if x33 < (x0.length : Int) then (if x33 < (x1.length : Int) then (mac_Equal.l1.m K x0 x1 k (bOr .u8 x32 (bXor .u8 (at_ x0 x33) (at_ x1 x33))) (w64 (x33 + 1))) else none) else none) else none) else (some (x32)))) fun (j40 : Bool → Option (Int)) => (if x33 < (x0.length : Int) then (j40 true) else (j40 false)))
def mac_Equal.m (K : Nat) (x0 : (List Int)) (x1 : (List Int)) : Option Bool :=
  (if (x0.length : Int) = (x1.length : Int) then ((mac_Equal.l1.m K x0 x1 K 0 0).bind fun x35 => (some (x35 == 0))) else (some false))

theorem mac_Equal.calls {G : Gh} {K : Nat} {x0 : (List Int)} {x1 : (List Int)} {a21 : Option Addr} {p22 : Nat} {n23 : Nat} {a25 : Option Addr} {p26 : Nat} {n27 : Nat} {h : Heap} {r : Bool} (H : mac_Equal.m K x0 x1 = some r)  (s29 : Sn (tInt .u8) G h a21 p22 n23 x0) (s30 : Sn (tInt .u8) G h a25 p26 n27 x1) :
    Ret Tryd.prog 26 #[.slice a21 n23 p22, .slice a25 n27 p26] h (fun v h' => .bool r = v ∧ h' = h) := by
 unfold mac_Equal.m at H
 obtain rfl := s29.len.symm
 obtain rfl := s30.len.symm
 refine fn_of (args := [.slice a21 x0.length p22, .slice a25 x1.length p26]) (rs := [.tmp 4]) (N := 31) Tryd.func26 rfl rfl rfl rfl ?_
 refine st 11 [] (k_iteN H (fun c31 H => ?_) (fun c31 H => ?_))
 ·refine st 15 [false] ?_
  obtain ⟨s34, m37, HR36⟩ := bind_some H
  refine k_loop 0 (fun k' ρ h1 => ∃ (x32 : Int) (x33 : Int), mac_Equal.l1.m K x0 x1 k' x32 x33 = some s34 ∧ Fits [(1, .slice a25 x1.length p26), (5, .int .u8 x32), (13, .slice a21 x0.length p22), (14, .int .i64 (x0.length : Int)), (15, .int .i64 x33)] ρ ∧ h = h1) (fun ρ h1 => ∃ (x35 : Int), x35 = s34 ∧ Fits [(5, .int .u8 x35)] ρ ∧ h = h1) K ⟨0, 0, m37, ⟨by kernel_rfl, by kernel_rfl, by kernel_rfl, by kernel_rfl, by kernel_rfl, trivial⟩, rfl⟩ ?_ rfl ?_
  ·clear HR36 m37 H
   rintro k' ρ h1 ⟨x32, x33, H, hf, rfl⟩
   cases k' with
   | zero => cases H
   | succ k =>
    rw [mac_Equal.l1.m] at H
    refine k_fits _ hf ?_ rfl
    refine st 1 [] ?_
    obtain ⟨j40, e44, H⟩ := letJ_some H
    refine k_join (fun ρ h1 => ∃ (x39 : Bool), j40 x39 = some s34 ∧ Fits [(1, .slice a25 x1.length p26), (5, .int .u8 x32), (13, .slice a21 x0.length p22), (14, .int .i64 (x0.length : Int)), (15, .int .i64 x33), (16, .bool x39)] ρ ∧ h = h1) ?_ ?_
    ·refine st 1 [] (k_ite H (fun c38 H => ?_) (fun c38 H => ?_))
     ·refine st 1 [] ?_
      exact k_end ⟨true, H, ⟨by kernel_rfl, by kernel_rfl, by kernel_rfl, by kernel_rfl, by kernel_rfl, by kernel_rfl, trivial⟩, rfl⟩
     ·refine st 1 [] ?_
      exact k_end ⟨false, H, ⟨by kernel_rfl, by kernel_rfl, by kernel_rfl, by kernel_rfl, by kernel_rfl, by kernel_rfl, trivial⟩, rfl⟩
    ·clear H
     rintro ρ h1 ⟨x39, H, hf, rfl⟩
     refine k_fits _ hf ?_ rfl
     subst e44
     try dsimp only at H
     cases x39
     ·rw [cond_false] at H
      refine st 2 [false] ?_
      refine k_out rfl ?_
      obtain rfl := Option.some.inj H
      exact xE ⟨x32, rfl, ⟨by kernel_rfl, trivial⟩, rfl⟩
     ·rw [cond_true] at H
      obtain ⟨c41, H⟩ := guard_pos H
      obtain ⟨c42, H⟩ := guard_pos H
      refine st 8 [true] (k_val (elemPtr a21 (x33.toNat * 1)) (pI (e := 5) (ik := .i64) s29 c41 c42) ?_)
      refine k_op (lC (s29.cell1 c41 c42) ?_)
      obtain ⟨c43, H⟩ := guard_pos H
      refine st 8 [] (k_val (elemPtr a25 (x33.toNat * 1)) (pI (e := 5) (ik := .i64) s30 c41 c43) ?_)
      refine k_op (lC (s30.cell1 c41 c43) ?_)
      refine st 9 [] ?_
      exact k_endL ⟨k, Nat.lt_succ_self _, (bOr .u8 x32 (bXor .u8 (at_ x0 x33) (at_ x1 x33))), (w64 (x33 + 1)), H, ⟨by kernel_rfl, by kernel_rfl, by kernel_rfl, by kernel_rfl, by kernel_rfl, trivial⟩, rfl⟩
  ·rintro ρ h1 ⟨x35, rfl, hf, rfl⟩
   have H := HR36
   try dsimp only at H
   refine k_fits _ hf ?_ rfl
   refine st 6 [] ?_
   refine k_retQ ?_
   obtain rfl := Option.some.inj H
   exact ⟨_, by kernel_rfl, rfl, rfl⟩
 ·refine st 6 [true] ?_
  refine k_retQ ?_
  obtain rfl := Option.some.inj H
  exact ⟨_, by kernel_rfl, rfl, rfl⟩

/-! slices.Clone[[]byte,byte] -/
def slices_Clone_bytes.m (x0 : (List Int)) : Option (List Int) :=
  ((app [] x0).bind fun l29 => (some l29))

theorem slices_Clone_bytes.calls {B I : Gh} {h : Heap} {x0 : (List Int)} {a21 : Option Addr} {p22 : Nat} {n23 : Nat} {r : (List Int)} (H : slices_Clone_bytes.m x0 = some r)  :
    Fc Tryd.prog 27 #[.slice a21 n23 p22] [rR (tInt .u8) .b a21 p22 n23 x0] B I h (fun v L => ∃ (a34 : Option Addr) (p35 : Nat) (n36 : Nat), v = .slice a34 n36 p35 ∧ L = [rO (tInt .u8) .i a34 p35 n36 r]) := by
 refine fc_of fun E hs => ?_
 unfold slices_Clone_bytes.m at H
 obtain rfl := hs.nR d0
 refine fn_of (args := [.slice a21 x0.length p22]) (rs := [.tmp 2]) (N := 8) Tryd.func27 rfl rfl rfl rfl ?_
 rcases a21 with _ | ad25
 ·have e26 := ((hs.sR d0).toSl.nil rfl).1
  replace H : (some []) = some r := by simpa [app, Lim, e26] using H
  refine st 15 [true] ?_
  refine k_retQ ?_
  obtain rfl := Option.some.inj H
  exact ⟨_, by kernel_rfl, I, _, ⟨none, 0, 0, rfl, rfl⟩, hs.pk (.f imON .n)⟩
 ·refine st 14 [false] (k_op (nS (e := 5) hs .i (tInt .u8) ([] : List Int) [] 1 (.int .u8 0) (Reps.int (I := (Cl.G .i E.B I)) (k := .u8) (l := [])) ?_))
  intro b27 h hs
  obtain ⟨l29, m30, H⟩ := bind_some H
  refine st 1 [] (k_op (aO (e := 5) (bytes := 1) hs ((hs.sR d1).flat flat_int) m30 ?_))
  intro a31 p32 h hs
  refine st 2 [] ?_
  refine k_retQ ?_
  obtain rfl := Option.some.inj H
  exact ⟨_, by kernel_rfl, I, _, ⟨a31, p32, l29.length, rfl, rfl⟩, hs.pk (.c d0 .n)⟩

/-! shutter/frame.Open -/
def frame_Open.l1.m (K : Nat) (x2 : (List Int)) : Nat → Int → Int → Option (Int)
  | 0, _, _ => none
  | k + 1, x49, x50 => (if x50 < ((sub (sub x2 0 (w64 ((x2.length : Int) - 16))) 2 10).length : Int) then (if 0 ≤ x50 then (frame_Open.l1.m K x2 k (bOr .u64 (shl .u64 x49 8) (IntKind.u64.wrap ((at_ (sub (sub x2 0 (w64 ((x2.length : Int) - 16))) 2 10) x50)))) (w64 (x50 + 1))) else none) else (some (x49)))
def frame_Open.m (K : Nat) (x0 : (List Int)) (x1 : Int) (x2 : (List Int)) : Option (api_Frame × GoErr) :=
  (letJ (α := Bool → Option (api_Frame × GoErr)) (fun (x31 : Bool) => (bif x31 then (some ((⟨0, 0, []⟩ : api_Frame), (GoErr.no 2))) else (if (x2.length : Int) > 512 then (some ((⟨0, 0, []⟩ : api_Frame), (GoErr.no 6))) else (if 0 ≤ (w64 ((x2.length : Int) - 16)) then (if (w64 ((x2.length : Int) - 16)) ≤ (x2.length : Int) then ((mac_Tag.m K x0 [(sub x2 0 (w64 ((x2.length : Int) - 16)))]).bind fun t39 => ((mac_Equal.m K t39 (sub x2 (w64 ((x2.length : Int) - 16)) (x2.length : Int))).bind fun t43 => bif t43 then (if 0 < ((sub x2 0 (w64 ((x2.length : Int) - 16))).length : Int) then (if (at_ (sub x2 0 (w64 ((x2.length : Int) - 16))) 0) = 1 then (if 1 < ((sub x2 0 (w64 ((x2.length : Int) - 16))).length : Int) then (if (w64 ((at_ (sub x2 0 (w64 ((x2.length : Int) - 16))) 1))) = x1 then (if 10 ≤ ((sub x2 0 (w64 ((x2.length : Int) - 16))).length : Int) then ((frame_Open.l1.m K x2 K 0 0).bind fun x52 => (if x52 < 1 then (some ((⟨0, 0, []⟩ : api_Frame), (GoErr.no 1))) else (if x52 > 4611686018427387904 then (some ((⟨0, 0, []⟩ : api_Frame), (GoErr.no 1))) else ((frame_sided.m x1).bind fun t59 => bif t59 then ((slices_Clone_bytes.m (sub (sub x2 0 (w64 ((x2.length : Int) - 16))) 10 ((sub x2 0 (w64 ((x2.length : Int) - 16))).length : Int))).bind fun t60 => (some ((⟨x1, (w64 (x52)), t60⟩ : api_Frame), GoErr.nil))) else (some ((⟨0, 0, []⟩ : api_Frame), (GoErr.no 1))))))) else none) else (some ((⟨0, 0, []⟩ : api_Frame), (GoErr.no 13)))) else none) else (some ((⟨0, 0, []⟩ : api_Frame), (GoErr.no 13)))) else none) else (some ((⟨0, 0, []⟩ : api_Frame), (GoErr.no 11))))) else none) else none)))) fun (j32 : Bool → Option (api_Frame × GoErr)) => (if (x2.length : Int) < 26 then (j32 true) else (j32 false)))

theorem frame_Open.calls {B I : Gh} {h : Heap} {K : Nat} {x0 : (List Int)} {x1 : Int} {x2 : (List Int)} {a21 : Option Addr} {p22 : Nat} {n23 : Nat} {a25 : Option Addr} {p26 : Nat} {n27 : Nat} {r : (api_Frame × GoErr)} (H : frame_Open.m K x0 x1 x2 = some r)  :
    Fc Tryd.prog 15 #[.slice a21 n23 p22, .int .i64 x1, .slice a25 n27 p26] [rR (tInt .u8) .b a21 p22 n23 x0, rR (tInt .u8) .b a25 p26 n27 x2] B I h (fun v L => ∃ (a66 : Option Addr) (p67 : Nat) (n68 : Nat) (v70 : Value), v = .tuple #[.agg #[.int .i64 r.1.Dir, .int .i64 r.1.Seq, .slice a66 n68 p67], v70] ∧ L = [rO (tInt .u8) .i a66 p67 n68 r.1.Body, rE .i v70 r.2]) := by
 refine fc_of fun E hs => ?_
 unfold frame_Open.m at H
 obtain rfl := hs.nR d0
 obtain rfl := hs.nR d1
 refine fn_of2 (args := [.slice a21 x0.length p22, .int .i64 x1, .slice a25 x2.length p26]) (rs := [.cell 6 24, .tmp 7]) (N := 93) Tryd.func15 rfl rfl rfl rfl ?_
 refine st 2 [] (k_op (nA hs [.int .i64 0, .int .i64 0, .slice none 0 0] (.agg #[.int .i64 0, .int .i64 0, .slice none 0 0]) ?_))
 intro b29 h hs
 refine st 5 [] ?_
 obtain ⟨j32, e65, H⟩ := letJ_some H
 refine k_join (fun ρ h => ∃ (x31 : Bool) (I : Gh), j32 x31 = some r ∧ Fits [(0, .slice a21 x0.length p22), (1, .int .i64 x1), (2, .slice a25 x2.length p26), (6, .pointer (some ⟨b29, 0, none⟩)), (14, .bool x31)] ρ ∧ St E [rR (tInt .u8) .b a21 p22 x0.length x0, rR (tInt .u8) .b a25 p26 x2.length x2, rB b29 [.int .i64 0, .int .i64 0, .slice none 0 0] 24] I h) ?_ ?_
 ·refine st 3 [] (k_ite H (fun c30 H => ?_) (fun c30 H => ?_))
  ·refine st 2 [] ?_
   exact k_end ⟨true, I, H, ⟨by kernel_rfl, by kernel_rfl, by kernel_rfl, by kernel_rfl, by kernel_rfl, trivial⟩, hs.pk (.c d1 (.c d1 (.c d0 .n)))⟩
  ·refine st 2 [] ?_
   exact k_end ⟨false, I, H, ⟨by kernel_rfl, by kernel_rfl, by kernel_rfl, by kernel_rfl, by kernel_rfl, trivial⟩, hs.pk (.c d1 (.c d1 (.c d0 .n)))⟩
 ·clear H
  rintro ρ h ⟨x31, I, H, hf, hs⟩
  refine k_fits _ hf ?_ rfl
  subst e65
  try dsimp only at H
  cases x31
  ·rw [cond_false] at H
   refine st 5 [false] (k_ite H (fun c33 H => ?_) (fun c33 H => ?_))
   ·refine st 7 [true] (k_op (sN (hs.f d2) 0 [.int .i64 0, .int .i64 0, .slice none 0 0] [.int .i64 0, .int .i64 0, .slice none 0 0] (ones_of rfl) ?_))
    intro h hs
    refine st 2 [] ?_
    refine k_retQ ?_
    obtain rfl := Option.some.inj H
    exact ⟨[.agg #[.int .i64 0, .int .i64 0, .slice none 0 0], .iface 49 (.int .i64 6)], (.cons (.agg (by kernel_rfl) (by kernel_rfl) (by kernel_rfl) ((hs.bl d0).seg_ 0 3 (Nat.le_of_ble_eq_true rfl))) (.cons (.tmp (by kernel_rfl)) .nil)), I, _, ⟨none, 0, 0, (.iface 49 (.int .i64 6)), rfl, rfl⟩, hs.pk (.f imON (.f imEC .n))⟩
   ·refine st 6 [false] ?_
    obtain ⟨hs0, bk0⟩ := hs.call tk0 (.c (qB d1) .n)
    have hs := hs0
    refine k_regD hs0 12 ?_
    obtain ⟨c34, H⟩ := guard_pos H
    obtain ⟨c35, H⟩ := guard_pos H
    refine aRun [0, 1, 2, 3] 8 hs.keep ?_
    refine aP 4 (.slice (slA a25 p26 (Int.toNat (0 : Int)) 1) ((sub x2 0 (w64 ((x2.length : Int) - 16))).length) (p26 - Int.toNat (0 : Int))) rfl (pSh (e := 5) (k2 := .i64) (hs.sR d0) (Int.le_refl 0) c34 c35) hs.keep ?_
    refine aRun [5, 6, 7, 8] 3 hs.keep ?_
    refine aP 9 (.slice (slA a25 p26 (Int.toNat (w64 ((x2.length : Int) - 16))) 1) ((sub x2 (w64 ((x2.length : Int) - 16)) (x2.length : Int)).length) (p26 - Int.toNat (w64 ((x2.length : Int) - 16)))) rfl (pSl (e := 5) (k1 := .i64) (hs.sR d0) c34 c35 (Int.le_refl _)) hs.keep ?_
    refine aRun [10, 11] 0 hs.keep ?_
    replace hs := hs.pk .n
    replace hs := bk0 hs ct0 rfl
    refine aEnd ?_
    replace hs := hs.part d1 (lo := 0) (hi := (w64 ((x2.length : Int) - 16))) (Int.le_refl 0) c34 c35
    have hz := hs
    obtain ⟨I, hs⟩ := hs.all (.r (.r (.r (.d .n))))
    refine st 5 [] (k_op (nS (e := 22) hs .i (tSl (tInt .u8)) ([(sub x2 0 (w64 ((x2.length : Int) - 16)))] : List (List Int)) [.slice (slA a25 p26 (Int.toNat (0 : Int)) 1) ((sub x2 0 (w64 ((x2.length : Int) - 16))).length) (p26 - Int.toNat (0 : Int))] 1 (.slice none 0 0) (Reps.cons (T := (tSl (tInt .u8))) (c := [.slice (slA a25 p26 (Int.toNat (0 : Int)) 1) ((sub x2 0 (w64 ((x2.length : Int) - 16))).length) (p26 - Int.toNat (0 : Int))]) (x := (sub x2 0 (w64 ((x2.length : Int) - 16)))) ⟨_, _, _, rfl, (hs.g d0)⟩ (.nil : Reps (tSl (tInt .u8)) (Cl.G .i E.B I) h [] [])) ?_))
    intro b37 h hs
    obtain ⟨I, hs⟩ := hs.fO
    obtain ⟨hk, bk⟩ := hs.call tk0 (.c (qI d2) (.c (qK d0) .n))
    refine k_call H (fun _ m => mac_Tag.calls m hk) ?_
    rintro t39 _ h H ⟨I, _, ⟨rfl, rfl, hl40⟩, hk⟩
    replace hs := bk hk ct0 rfl
    obtain ⟨I, hs⟩ : ∃ I, St E _ I _ := ⟨_, hz.back hs⟩
    refine k_op (nA hs (List.map (Value.int .u8) (List.replicate 16 (0 : Int))) (.agg (List.map (Value.int .u8) (List.replicate 16 (0 : Int))).toArray) ?_)
    intro b41 h hs
    refine k_op (sAN (l2 := t39) hs (List.length_replicate (n := 16) (a := (0 : Int))) hl40 ?_)
    intro h hs
    obtain ⟨I, hs⟩ := hs.fA hl40
    refine st 5 [] (k_call H (fun _ m => mac_Equal.calls m ((hs.sR d0)).up1 (Sn.part (hs.sR d3) (lo := (w64 ((x2.length : Int) - 16))) (hi := (x2.length : Int)) c34 c35 (Int.le_refl _))) ?_)
    rintro t43 _ _ H ⟨rfl, rfl⟩
    cases t43
    ·rw [cond_false] at H
     refine st 7 [true] (k_op (sN (hs.f d4) 0 [.int .i64 0, .int .i64 0, .slice none 0 0] [.int .i64 0, .int .i64 0, .slice none 0 0] (ones_of rfl) ?_))
     intro h hs
     refine st 2 [] ?_
     refine k_retQ ?_
     obtain rfl := Option.some.inj H
     exact ⟨[.agg #[.int .i64 0, .int .i64 0, .slice none 0 0], .iface 49 (.int .i64 11)], (.cons (.agg (by kernel_rfl) (by kernel_rfl) (by kernel_rfl) ((hs.bl d0).seg_ 0 3 (Nat.le_of_ble_eq_true rfl))) (.cons (.tmp (by kernel_rfl)) .nil)), I, _, ⟨none, 0, 0, (.iface 49 (.int .i64 11)), rfl, rfl⟩, hs.pk (.f imON (.f imEC .n))⟩
    ·rw [cond_true] at H
     obtain ⟨c44, H⟩ := guard_pos H
     refine st 8 [false] (k_val (elemPtr (slA a25 p26 (Int.toNat (0 : Int)) 1) ((0 : Int).toNat * 1)) (pI (e := 5) (ik := .i64) (Sn.part (hs.sR d3) (lo := 0) (hi := (w64 ((x2.length : Int) - 16))) (Int.le_refl 0) c34 c35) (by decide) c44) ?_)
     refine k_op (lC ((Sn.part (hs.sR d3) (lo := 0) (hi := (w64 ((x2.length : Int) - 16))) (Int.le_refl 0) c34 c35).cell1 (by decide) c44) ?_)
     refine k_iteN H (fun c45 H => ?_) (fun c45 H => ?_)
     ·obtain ⟨c46, H⟩ := guard_pos H
      refine st 2 [] (k_val (elemPtr (slA a25 p26 (Int.toNat (0 : Int)) 1) ((1 : Int).toNat * 1)) (pI (e := 5) (ik := .i64) (Sn.part (hs.sR d3) (lo := 0) (hi := (w64 ((x2.length : Int) - 16))) (Int.le_refl 0) c34 c35) (by decide) c46) ?_)
      refine k_op (lC ((Sn.part (hs.sR d3) (lo := 0) (hi := (w64 ((x2.length : Int) - 16))) (Int.le_refl 0) c34 c35).cell1 (by decide) c46) ?_)
      refine st 2 [] (k_iteN H (fun c47 H => ?_) (fun c47 H => ?_))
      ·obtain ⟨c48, H⟩ := guard_pos H
       refine st 12 [false] (k_val (.slice (slA (slA a25 p26 (Int.toNat (0 : Int)) 1) (p26 - Int.toNat (0 : Int)) (Int.toNat (2 : Int)) 1) ((sub (sub x2 0 (w64 ((x2.length : Int) - 16))) 2 10).length) ((p26 - Int.toNat (0 : Int)) - Int.toNat (2 : Int))) (pS (e := 5) (k1 := .i64) (k2 := .i64) (Sn.part (hs.sR d3) (lo := 0) (hi := (w64 ((x2.length : Int) - 16))) (Int.le_refl 0) c34 c35) (by decide) (by decide) c48) ?_)
       refine st 4 [] ?_
       obtain ⟨s51, m54, HR53⟩ := bind_some H
       refine k_loop 1 (fun k' ρ h => ∃ (x49 : Int) (x50 : Int) (I : Gh), frame_Open.l1.m K x2 k' x49 x50 = some s51 ∧ Fits [(1, .int .i64 x1), (6, .pointer (some ⟨b29, 0, none⟩)), (8, .slice (slA a25 p26 (Int.toNat (0 : Int)) 1) ((sub x2 0 (w64 ((x2.length : Int) - 16))).length) (p26 - Int.toNat (0 : Int))), (11, .int .u64 x49), (61, .slice (slA (slA a25 p26 (Int.toNat (0 : Int)) 1) (p26 - Int.toNat (0 : Int)) (Int.toNat (2 : Int)) 1) ((sub (sub x2 0 (w64 ((x2.length : Int) - 16))) 2 10).length) ((p26 - Int.toNat (0 : Int)) - Int.toNat (2 : Int))), (62, .int .i64 ((sub (sub x2 0 (w64 ((x2.length : Int) - 16))) 2 10).length : Int)), (63, .int .i64 x50)] ρ ∧ St E [rR (tInt .u8) .b a25 p26 x2.length x2, rB b29 [.int .i64 0, .int .i64 0, .slice none 0 0] 24] I h) (fun ρ h => ∃ (x52 : Int) (I : Gh), x52 = s51 ∧ Fits [(1, .int .i64 x1), (6, .pointer (some ⟨b29, 0, none⟩)), (8, .slice (slA a25 p26 (Int.toNat (0 : Int)) 1) ((sub x2 0 (w64 ((x2.length : Int) - 16))).length) (p26 - Int.toNat (0 : Int))), (11, .int .u64 x52)] ρ ∧ St E [rR (tInt .u8) .b a25 p26 x2.length x2, rB b29 [.int .i64 0, .int .i64 0, .slice none 0 0] 24] I h) K ⟨0, 0, I, m54, ⟨by kernel_rfl, by kernel_rfl, by kernel_rfl, by kernel_rfl, by kernel_rfl, by kernel_rfl, by kernel_rfl, trivial⟩, hs.pk (.c d3 (.c d3 .n))⟩ ?_ rfl ?_
       ·clear HR53 m54 H
        rintro k' ρ h ⟨x49, x50, I, H, hf, hs⟩
        cases k' with
        | zero => cases H
        | succ k =>
         rw [frame_Open.l1.m] at H
         refine k_fits _ hf ?_ rfl
         refine st 2 [] (k_ite H (fun c55 H => ?_) (fun c55 H => ?_))
         ·obtain ⟨c56, H⟩ := guard_pos H
          refine st 8 [true] (k_val (elemPtr (slA (slA a25 p26 (Int.toNat (0 : Int)) 1) (p26 - Int.toNat (0 : Int)) (Int.toNat (2 : Int)) 1) (x50.toNat * 1)) (pI (e := 5) (ik := .i64) (Sn.part (Sn.part (hs.sR d0) (lo := 0) (hi := (w64 ((x2.length : Int) - 16))) (Int.le_refl 0) c34 c35) (lo := 2) (hi := 10) (by decide) (by decide) c48) c56 c55) ?_)
          refine k_op (lC ((Sn.part (Sn.part (hs.sR d0) (lo := 0) (hi := (w64 ((x2.length : Int) - 16))) (Int.le_refl 0) c34 c35) (lo := 2) (hi := 10) (by decide) (by decide) c48).cell1 c56 c55) ?_)
          refine st 15 [] ?_
          exact k_endL ⟨k, Nat.lt_succ_self _, (bOr .u64 (shl .u64 x49 8) (IntKind.u64.wrap ((at_ (sub (sub x2 0 (w64 ((x2.length : Int) - 16))) 2 10) x50)))), (w64 (x50 + 1)), I, H, ⟨by kernel_rfl, by kernel_rfl, by kernel_rfl, by kernel_rfl, by kernel_rfl, by kernel_rfl, by kernel_rfl, trivial⟩, hs.pk (.c d0 (.c d0 .n))⟩
         ·refine st 3 [false] ?_
          refine k_out rfl ?_
          obtain rfl := Option.some.inj H
          exact xE ⟨x49, I, rfl, ⟨by kernel_rfl, by kernel_rfl, by kernel_rfl, by kernel_rfl, trivial⟩, hs.pk (.c d0 (.c d0 .n))⟩
       ·rintro ρ h ⟨x52, I, rfl, hf, hs⟩
        have H := HR53
        try dsimp only at H
        refine k_fits _ hf ?_ rfl
        refine st 4 [] (k_ite H (fun c57 H => ?_) (fun c57 H => ?_))
        ·refine st 15 [true] (k_op (sN (hs.f d1) 0 [.int .i64 0, .int .i64 0, .slice none 0 0] [.int .i64 0, .int .i64 0, .slice none 0 0] (ones_of rfl) ?_))
         intro h hs
         refine st 2 [] ?_
         refine k_retQ ?_
         obtain rfl := Option.some.inj H
         exact ⟨[.agg #[.int .i64 0, .int .i64 0, .slice none 0 0], .iface 49 (.int .i64 1)], (.cons (.agg (by kernel_rfl) (by kernel_rfl) (by kernel_rfl) ((hs.bl d0).seg_ 0 3 (Nat.le_of_ble_eq_true rfl))) (.cons (.tmp (by kernel_rfl)) .nil)), I, _, ⟨none, 0, 0, (.iface 49 (.int .i64 1)), rfl, rfl⟩, hs.pk (.f imON (.f imEC .n))⟩
        ·refine st 2 [] (k_ite H (fun c58 H => ?_) (fun c58 H => ?_))
         ·refine st 12 [true] (k_op (sN (hs.f d1) 0 [.int .i64 0, .int .i64 0, .slice none 0 0] [.int .i64 0, .int .i64 0, .slice none 0 0] (ones_of rfl) ?_))
          intro h hs
          refine st 2 [] ?_
          refine k_retQ ?_
          obtain rfl := Option.some.inj H
          exact ⟨[.agg #[.int .i64 0, .int .i64 0, .slice none 0 0], .iface 49 (.int .i64 1)], (.cons (.agg (by kernel_rfl) (by kernel_rfl) (by kernel_rfl) ((hs.bl d0).seg_ 0 3 (Nat.le_of_ble_eq_true rfl))) (.cons (.tmp (by kernel_rfl)) .nil)), I, _, ⟨none, 0, 0, (.iface 49 (.int .i64 1)), rfl, rfl⟩, hs.pk (.f imON (.f imEC .n))⟩
         ·refine st 3 [] (k_call H (fun _ m => frame_sided.calls m) ?_)
          rintro t59 _ _ H ⟨rfl, rfl⟩
          cases t59
          ·rw [cond_false] at H
           refine st 8 [true] (k_op (sN (hs.f d1) 0 [.int .i64 0, .int .i64 0, .slice none 0 0] [.int .i64 0, .int .i64 0, .slice none 0 0] (ones_of rfl) ?_))
           intro h hs
           refine st 2 [] ?_
           refine k_retQ ?_
           obtain rfl := Option.some.inj H
           exact ⟨[.agg #[.int .i64 0, .int .i64 0, .slice none 0 0], .iface 49 (.int .i64 1)], (.cons (.agg (by kernel_rfl) (by kernel_rfl) (by kernel_rfl) ((hs.bl d0).seg_ 0 3 (Nat.le_of_ble_eq_true rfl))) (.cons (.tmp (by kernel_rfl)) .nil)), I, _, ⟨none, 0, 0, (.iface 49 (.int .i64 1)), rfl, rfl⟩, hs.pk (.f imON (.f imEC .n))⟩
          ·rw [cond_true] at H
           refine st 11 [false] (k_val (.slice (slA (slA a25 p26 (Int.toNat (0 : Int)) 1) (p26 - Int.toNat (0 : Int)) (Int.toNat (10 : Int)) 1) ((sub (sub x2 0 (w64 ((x2.length : Int) - 16))) 10 ((sub x2 0 (w64 ((x2.length : Int) - 16))).length : Int)).length) ((p26 - Int.toNat (0 : Int)) - Int.toNat (10 : Int))) (pSl (e := 5) (k1 := .i64) (Sn.part (hs.sR d0) (lo := 0) (hi := (w64 ((x2.length : Int) - 16))) (Int.le_refl 0) c34 c35) (by decide) c48 (Int.le_refl _)) ?_)
           obtain ⟨hk, bk⟩ := hs.call tk0 (.c (qP (qP (qB d0) (lo := 0) (hi := (w64 ((x2.length : Int) - 16))) (Int.le_refl 0) c34 c35) (lo := 10) (hi := ((sub x2 0 (w64 ((x2.length : Int) - 16))).length : Int)) (by decide) c48 (Int.le_refl _)) .n)
           refine k_call H (fun _ m => slices_Clone_bytes.calls m hk) ?_
           rintro t60 _ h H ⟨I, _, ⟨a61, p62, n63, rfl, rfl⟩, hk⟩
           replace hs := bk hk ct1 rfl
           obtain rfl := hs.nO d0
           refine st 1 [] (k_op (sN (hs.f d2) 0 [.int .i64 x1, .int .i64 (w64 (x52)), .slice a61 t60.length p62] [.int .i64 x1, .int .i64 (w64 (x52)), .slice a61 t60.length p62] (ones_of rfl) ?_))
           intro h hs
           refine st 2 [] ?_
           refine k_retQ ?_
           obtain rfl := Option.some.inj H
           exact ⟨[.agg #[.int .i64 x1, .int .i64 (w64 (x52)), .slice a61 t60.length p62], .nilIface], (.cons (.agg (by kernel_rfl) (by kernel_rfl) (by kernel_rfl) ((hs.bl d0).seg_ 0 3 (Nat.le_of_ble_eq_true rfl))) (.cons (.tmp (by kernel_rfl)) .nil)), I, _, ⟨a61, p62, t60.length, (.nilIface), rfl, rfl⟩, hs.pk (.c d1 (.f imEN .n))⟩
      ·refine st 7 [true] (k_op (sN (hs.f d4) 0 [.int .i64 0, .int .i64 0, .slice none 0 0] [.int .i64 0, .int .i64 0, .slice none 0 0] (ones_of rfl) ?_))
       intro h hs
       refine st 2 [] ?_
       refine k_retQ ?_
       obtain rfl := Option.some.inj H
       exact ⟨[.agg #[.int .i64 0, .int .i64 0, .slice none 0 0], .iface 49 (.int .i64 13)], (.cons (.agg (by kernel_rfl) (by kernel_rfl) (by kernel_rfl) ((hs.bl d0).seg_ 0 3 (Nat.le_of_ble_eq_true rfl))) (.cons (.tmp (by kernel_rfl)) .nil)), I, _, ⟨none, 0, 0, (.iface 49 (.int .i64 13)), rfl, rfl⟩, hs.pk (.f imON (.f imEC .n))⟩
     ·refine st 14 [true] (k_op (sN (hs.f d4) 0 [.int .i64 0, .int .i64 0, .slice none 0 0] [.int .i64 0, .int .i64 0, .slice none 0 0] (ones_of rfl) ?_))
      intro h hs
      refine st 2 [] ?_
      refine k_retQ ?_
      obtain rfl := Option.some.inj H
      exact ⟨[.agg #[.int .i64 0, .int .i64 0, .slice none 0 0], .iface 49 (.int .i64 13)], (.cons (.agg (by kernel_rfl) (by kernel_rfl) (by kernel_rfl) ((hs.bl d0).seg_ 0 3 (Nat.le_of_ble_eq_true rfl))) (.cons (.tmp (by kernel_rfl)) .nil)), I, _, ⟨none, 0, 0, (.iface 49 (.int .i64 13)), rfl, rfl⟩, hs.pk (.f imON (.f imEC .n))⟩
  ·rw [cond_true] at H
   refine st 5 [true] (k_op (sN (hs.f d2) 0 [.int .i64 0, .int .i64 0, .slice none 0 0] [.int .i64 0, .int .i64 0, .slice none 0 0] (ones_of rfl) ?_))
   intro h hs
   refine st 2 [] ?_
   refine k_retQ ?_
   obtain rfl := Option.some.inj H
   exact ⟨[.agg #[.int .i64 0, .int .i64 0, .slice none 0 0], .iface 49 (.int .i64 2)], (.cons (.agg (by kernel_rfl) (by kernel_rfl) (by kernel_rfl) ((hs.bl d0).seg_ 0 3 (Nat.le_of_ble_eq_true rfl))) (.cons (.tmp (by kernel_rfl)) .nil)), I, _, ⟨none, 0, 0, (.iface 49 (.int .i64 2)), rfl, rfl⟩, hs.pk (.f imON (.f imEC .n))⟩

/-! shutter/shutterlaw19.awake -/
def shutterlaw19_awake.m (K : Nat)  : Option Bool :=
  ((frame_Seal.m K [107] (⟨0, 1, []⟩ : api_Frame)).bind fun t23 => ((frame_Open.m K [107] 0 t23.1).bind fun t32 => ((frame_Open.m K [108] 0 t23.1).bind fun t42 => ((frame_Open.m K [107] 1 t23.1).bind fun t52 => (if t23.2 = GoErr.nil then (if (t23.1.length : Int) = 26 then (if t32.2 = GoErr.nil then (if t32.1.Seq = 1 then ((api_Code.m t42.2).bind fun t68 => (if t68 = 11 then ((api_Code.m t52.2).bind fun t70 => (some (t70 == 13))) else (some false))) else (some false)) else (some false)) else (some false)) else (some false))))))

theorem shutterlaw19_awake.calls {B I : Gh} {h : Heap} {K : Nat} {r : Bool} (H : shutterlaw19_awake.m K = some r)  :
    Fc Tryd.prog 9 #[] [rG] B I h (fun v L => v = .bool r ∧ L = []) := by
 refine fc_of fun E hs => ?_
 unfold shutterlaw19_awake.m at H
 refine fn_of (args := []) (rs := [.tmp 0]) (N := 63) Tryd.func9 rfl rfl rfl rfl ?_
 refine st 6 [] (k_op (nS (e := 5) hs .i (tInt .u8) ([107] : List Int) [.int .u8 107] 1 (.int .u8 0) (Reps.int (I := (Cl.G .i E.B I)) (k := .u8) (l := [107])) ?_))
 intro b21 h hs
 refine k_op (cvO (e := 5) hs ?_)
 intro I h hs
 obtain ⟨hk, bk⟩ := hs.call tk0 (.c (qI d0) (.c qN .n))
 refine st 1 [] (k_call H (fun _ m => frame_Seal.calls m hk) ?_)
 rintro t23 _ h H ⟨I, _, ⟨a24, p25, n26, v28, rfl, rfl⟩, hk⟩
 replace hs := bk hk ct2 rfl
 obtain rfl := hs.nO d0
 refine st 8 [] (k_op (nS (e := 5) hs .i (tInt .u8) ([107] : List Int) [.int .u8 107] 1 (.int .u8 0) (Reps.int (I := (Cl.G .i E.B I)) (k := .u8) (l := [107])) ?_))
 intro b30 h hs
 refine k_op (cvO (e := 5) hs ?_)
 intro I h hs
 obtain ⟨hk, bk⟩ := hs.call tk0 (.c (qI d0) (.c (qO d1) .n))
 refine st 1 [] (k_call H (fun _ m => frame_Open.calls m hk) ?_)
 rintro t32 _ h H ⟨I, _, ⟨a33, p34, n35, v37, rfl, rfl⟩, hk⟩
 replace hs := bk hk ct2 rfl
 obtain rfl := hs.nO d0
 refine st 3 [] (k_op (nA hs [.int .i64 0, .int .i64 0, .slice none 0 0] (.agg #[.int .i64 0, .int .i64 0, .slice none 0 0]) ?_))
 intro b39 h hs
 refine k_op (sN hs 0 [.int .i64 t32.1.Dir, .int .i64 t32.1.Seq, .slice a33 t32.1.Body.length p34] [.int .i64 t32.1.Dir, .int .i64 t32.1.Seq, .slice a33 t32.1.Body.length p34] (ones_of rfl) ?_)
 intro h hs
 refine st 4 [] (k_op (nS (e := 5) hs .i (tInt .u8) ([108] : List Int) [.int .u8 108] 1 (.int .u8 0) (Reps.int (I := (Cl.G .i E.B I)) (k := .u8) (l := [108])) ?_))
 intro b40 h hs
 refine k_op (cvO (e := 5) hs ?_)
 intro I h hs
 obtain ⟨hk, bk⟩ := hs.call tk0 (.c (qI d0) (.c (qO d5) .n))
 refine st 1 [] (k_call H (fun _ m => frame_Open.calls m hk) ?_)
 rintro t42 _ h H ⟨I, _, ⟨a43, p44, n45, v47, rfl, rfl⟩, hk⟩
 replace hs := bk hk ct2 rfl
 obtain rfl := hs.nO d0
 refine st 3 [] (k_op (nA hs [.int .i64 0, .int .i64 0, .slice none 0 0] (.agg #[.int .i64 0, .int .i64 0, .slice none 0 0]) ?_))
 intro b49 h hs
 refine k_op (sN hs 0 [.int .i64 t42.1.Dir, .int .i64 t42.1.Seq, .slice a43 t42.1.Body.length p44] [.int .i64 t42.1.Dir, .int .i64 t42.1.Seq, .slice a43 t42.1.Body.length p44] (ones_of rfl) ?_)
 intro h hs
 refine st 4 [] (k_op (nS (e := 5) hs .i (tInt .u8) ([107] : List Int) [.int .u8 107] 1 (.int .u8 0) (Reps.int (I := (Cl.G .i E.B I)) (k := .u8) (l := [107])) ?_))
 intro b50 h hs
 refine k_op (cvO (e := 5) hs ?_)
 intro I h hs
 obtain ⟨hk, bk⟩ := hs.call tk0 (.c (qI d0) (.c (qO d9) .n))
 refine st 1 [] (k_call H (fun _ m => frame_Open.calls m hk) ?_)
 rintro t52 _ h H ⟨I, _, ⟨a53, p54, n55, v57, rfl, rfl⟩, hk⟩
 replace hs := bk hk ct2 rfl
 obtain rfl := hs.nO d0
 refine st 3 [] (k_op (nA hs [.int .i64 0, .int .i64 0, .slice none 0 0] (.agg #[.int .i64 0, .int .i64 0, .slice none 0 0]) ?_))
 intro b59 h hs
 refine k_op (sN hs 0 [.int .i64 t52.1.Dir, .int .i64 t52.1.Seq, .slice a53 t52.1.Body.length p54] [.int .i64 t52.1.Dir, .int .i64 t52.1.Seq, .slice a53 t52.1.Body.length p54] (ones_of rfl) ?_)
 intro h hs
 rcases (hs.er d13).cases with ⟨c60, rfl⟩ | ⟨c60, t61, u62, rfl⟩
 ·rw [if_pos c60] at H
  refine st 9 [] (k_ite H (fun c63 H => ?_) (fun c63 H => ?_))
  ·rcases (hs.er d10).cases with ⟨c64, rfl⟩ | ⟨c64, t65, u66, rfl⟩
   ·rw [if_pos c64] at H
    refine st 7 [] (k_op (lB (hs.bl d8) 1 rfl ?_))
    refine k_ite H (fun c67 H => ?_) (fun c67 H => ?_)
    ·obtain ⟨hk, bk⟩ := hs.call tk0 (.c (xI d6) (.c (gK d15) .n))
     refine st 3 [] (k_call H (fun _ m => api_Code.calls m hk) ?_)
     rintro t68 _ h H ⟨I, _, ⟨rfl, rfl⟩, hk⟩
     replace hs := bk hk ct0 rfl
     refine k_ite H (fun c69 H => ?_) (fun c69 H => ?_)
     ·obtain ⟨hk, bk⟩ := hs.call tk0 (.c (xI d2) (.c (gK d15) .n))
      refine st 3 [] (k_call H (fun _ m => api_Code.calls m hk) ?_)
      rintro t70 _ h H ⟨I, _, ⟨rfl, rfl⟩, hk⟩
      replace hs := bk hk ct0 rfl
      refine st 4 [] ?_
      refine k_retQ ?_
      obtain rfl := Option.some.inj H
      exact ⟨_, by kernel_rfl, I, _, ⟨rfl, rfl⟩, hs.pk .n⟩
     ·refine st 8 [] ?_
      refine k_retQ ?_
      obtain rfl := Option.some.inj H
      exact ⟨_, by kernel_rfl, I, _, ⟨rfl, rfl⟩, hs.pk .n⟩
    ·refine st 13 [] ?_
     refine k_retQ ?_
     obtain rfl := Option.some.inj H
     exact ⟨_, by kernel_rfl, I, _, ⟨rfl, rfl⟩, hs.pk .n⟩
   ·rw [if_neg c64] at H
    refine st 22 [] ?_
    refine k_retQ ?_
    obtain rfl := Option.some.inj H
    exact ⟨_, by kernel_rfl, I, _, ⟨rfl, rfl⟩, hs.pk .n⟩
  ·refine st 22 [] ?_
   refine k_retQ ?_
   obtain rfl := Option.some.inj H
   exact ⟨_, by kernel_rfl, I, _, ⟨rfl, rfl⟩, hs.pk .n⟩
 ·rw [if_neg c60] at H
  refine st 32 [] ?_
  refine k_retQ ?_
  obtain rfl := Option.some.inj H
  exact ⟨_, by kernel_rfl, I, _, ⟨rfl, rfl⟩, hs.pk .n⟩

/-! shutter/shutterref19.Wrong -/
def shutterref19_Wrong.m (x0 : api_Frame) : Option Int :=
  (if x0.Dir = 0 then (if x0.Seq < 1 then (some 1) else (if x0.Seq > 4611686018427387904 then (some 1) else (if (x0.Body.length : Int) > 486 then (some 6) else (some 0)))) else (if x0.Dir = 1 then (if x0.Seq < 1 then (some 1) else (if x0.Seq > 4611686018427387904 then (some 1) else (if (x0.Body.length : Int) > 486 then (some 6) else (some 0)))) else (some 1)))

theorem shutterref19_Wrong.calls {B I : Gh} {h : Heap} {x0 : api_Frame} {a21 : Option Addr} {p22 : Nat} {n23 : Nat} {r : Int} (H : shutterref19_Wrong.m x0 = some r)  :
    Fc Tryd.prog 11 #[.agg #[.int .i64 x0.Dir, .int .i64 x0.Seq, .slice a21 n23 p22]] [rR (tInt .u8) .b a21 p22 n23 x0.Body] B I h (fun v L => v = .int .i64 r ∧ L = []) := by
 refine fc_of fun E hs => ?_
 unfold shutterref19_Wrong.m at H
 obtain rfl := hs.nR d0
 refine fn_of (args := [.agg #[.int .i64 x0.Dir, .int .i64 x0.Seq, .slice a21 x0.Body.length p22]]) (rs := [.tmp 2]) (N := 25) Tryd.func11 rfl rfl rfl rfl ?_
 refine st 2 [] (k_op (nB hs [.int .i64 x0.Dir, .int .i64 x0.Seq, .slice a21 x0.Body.length p22] ?_))
 intro b25 h hs
 refine st 6 [] (k_op (lB (hs.bl d0) 0 rfl ?_))
 refine k_iteN H (fun c26 H => ?_) (fun c26 H => ?_)
 ·refine st 7 [] (k_op (lB (hs.bl d0) 1 rfl ?_))
  refine k_ite H (fun c27 H => ?_) (fun c27 H => ?_)
  ·refine st 12 [true] ?_
   refine k_retQ ?_
   obtain rfl := Option.some.inj H
   exact ⟨_, by kernel_rfl, I, _, ⟨rfl, rfl⟩, hs.pk .n⟩
  ·refine st 3 [] (k_op (lB (hs.bl d0) 1 rfl ?_))
   refine k_ite H (fun c28 H => ?_) (fun c28 H => ?_)
   ·refine st 7 [true] ?_
    refine k_retQ ?_
    obtain rfl := Option.some.inj H
    exact ⟨_, by kernel_rfl, I, _, ⟨rfl, rfl⟩, hs.pk .n⟩
   ·refine st 8 [false] (k_op (lB (hs.bl d0) 2 rfl ?_))
    refine st 1 [] (k_ite H (fun c29 H => ?_) (fun c29 H => ?_))
    ·refine st 6 [true] ?_
     refine k_retQ ?_
     obtain rfl := Option.some.inj H
     exact ⟨_, by kernel_rfl, I, _, ⟨rfl, rfl⟩, hs.pk .n⟩
    ·refine st 7 [false] ?_
     refine k_retQ ?_
     obtain rfl := Option.some.inj H
     exact ⟨_, by kernel_rfl, I, _, ⟨rfl, rfl⟩, hs.pk .n⟩
 ·refine st 2 [] (k_op (lB (hs.bl d0) 0 rfl ?_))
  refine k_iteN H (fun c30 H => ?_) (fun c30 H => ?_)
  ·refine st 3 [] (k_op (lB (hs.bl d0) 1 rfl ?_))
   refine k_ite H (fun c31 H => ?_) (fun c31 H => ?_)
   ·refine st 12 [true] ?_
    refine k_retQ ?_
    obtain rfl := Option.some.inj H
    exact ⟨_, by kernel_rfl, I, _, ⟨rfl, rfl⟩, hs.pk .n⟩
   ·refine st 3 [] (k_op (lB (hs.bl d0) 1 rfl ?_))
    refine k_ite H (fun c32 H => ?_) (fun c32 H => ?_)
    ·refine st 7 [true] ?_
     refine k_retQ ?_
     obtain rfl := Option.some.inj H
     exact ⟨_, by kernel_rfl, I, _, ⟨rfl, rfl⟩, hs.pk .n⟩
    ·refine st 8 [false] (k_op (lB (hs.bl d0) 2 rfl ?_))
     refine st 1 [] (k_ite H (fun c33 H => ?_) (fun c33 H => ?_))
     ·refine st 6 [true] ?_
      refine k_retQ ?_
      obtain rfl := Option.some.inj H
      exact ⟨_, by kernel_rfl, I, _, ⟨rfl, rfl⟩, hs.pk .n⟩
     ·refine st 7 [false] ?_
      refine k_retQ ?_
      obtain rfl := Option.some.inj H
      exact ⟨_, by kernel_rfl, I, _, ⟨rfl, rfl⟩, hs.pk .n⟩
  ·refine st 17 [true] ?_
   refine k_retQ ?_
   obtain rfl := Option.some.inj H
   exact ⟨_, by kernel_rfl, I, _, ⟨rfl, rfl⟩, hs.pk .n⟩

/-! shutter/shutterref01.Same -/
def shutterref01_Same.l1.m (K : Nat) (x0 : (List Int)) (x1 : (List Int)) : Nat → Int → Option (Bool ⊕ (Unit))
  | 0, _ => none
  | k + 1, x32 => (if x32 < (x0.length : Int) then (if 0 ≤ x32 then (if x32 < (x1.length : Int) then (if (at_ x0 x32) = (at_ x1 x32) then (shutterref01_Same.l1.m K x0 x1 k (w64 (x32 + 1))) else (some (Sum.inl false))) else none) else none) else (some (Sum.inr ())))
def shutterref01_Same.m (K : Nat) (x0 : (List Int)) (x1 : (List Int)) : Option Bool :=
  (if (x0.length : Int) = (x1.length : Int) then ((shutterref01_Same.l1.m K x0 x1 K 0).bind fun s33 => match s33 with | .inl q => (some q) | .inr _ => (some true)) else (some false))

theorem shutterref01_Same.calls {G : Gh} {K : Nat} {x0 : (List Int)} {x1 : (List Int)} {a21 : Option Addr} {p22 : Nat} {n23 : Nat} {a25 : Option Addr} {p26 : Nat} {n27 : Nat} {h : Heap} {r : Bool} (H : shutterref01_Same.m K x0 x1 = some r)  (s29 : Sn (tInt .u8) G h a21 p22 n23 x0) (s30 : Sn (tInt .u8) G h a25 p26 n27 x1) :
    Ret Tryd.prog 13 #[.slice a21 n23 p22, .slice a25 n27 p26] h (fun v h' => .bool r = v ∧ h' = h) := by
 unfold shutterref01_Same.m at H
 obtain rfl := s29.len.symm
 obtain rfl := s30.len.symm
 refine fn_of (args := [.slice a21 x0.length p22, .slice a25 x1.length p26]) (rs := [.tmp 4]) (N := 26) Tryd.func13 rfl rfl rfl rfl ?_
 refine st 11 [] (k_iteN H (fun c31 H => ?_) (fun c31 H => ?_))
 ·refine st 9 [false] ?_
  obtain ⟨s33, m35, HR34⟩ := bind_some H
  refine k_loop 0 (fun k' ρ h1 => ∃ (x32 : Int), shutterref01_Same.l1.m K x0 x1 k' x32 = some s33 ∧ Fits [(0, .slice a21 x0.length p22), (1, .slice a25 x1.length p26), (5, .int .i64 x32)] ρ ∧ h = h1) (fun ρ h1 => Sum.inr () = s33 ∧ Fits [] ρ ∧ h = h1) K ⟨0, m35, ⟨by kernel_rfl, by kernel_rfl, by kernel_rfl, trivial⟩, rfl⟩ ?_ rfl ?_
  ·clear m35 H
   rintro k' ρ h1 ⟨x32, H, hf, rfl⟩
   cases k' with
   | zero => cases H
   | succ k =>
    rw [shutterref01_Same.l1.m] at H
    refine k_fits _ hf ?_ rfl
    refine st 6 [] (k_ite H (fun c36 H => ?_) (fun c36 H => ?_))
    ·refine st 6 [true] ?_
     refine k_regP 9 ?_
     obtain ⟨c37, H⟩ := guard_pos H
     refine aRun [0, 1] 7 Keep.refl ?_
     refine aP 2 (elemPtr a21 (x32.toNat * 1)) rfl (pI (e := 5) (ik := .i64) s29 c37 c36) Keep.refl ?_
     refine aL 3 rfl Keep.refl (s29.cell1 c37 c36) (fun _ _ x => x) ?_
     obtain ⟨c38, H⟩ := guard_pos H
     refine aRun [4, 5] 3 Keep.refl ?_
     refine aP 6 (elemPtr a25 (x32.toNat * 1)) rfl (pI (e := 5) (ik := .i64) s30 c37 c38) Keep.refl ?_
     refine aL 7 rfl Keep.refl (s30.cell1 c37 c38) (fun _ _ x => x) ?_
     by_cases c39 : (at_ x0 x32) = (at_ x1 x32)
     ·rw [if_pos c39] at H
      refine aP 8 (.bool false) rfl (pr_bool (by kernel_rfl) (neF c39)) Keep.refl ?_
      refine aEnd ?_
      refine st 8 [false] ?_
      exact k_endL ⟨k, Nat.lt_succ_self _, (w64 (x32 + 1)), H, ⟨by kernel_rfl, by kernel_rfl, by kernel_rfl, trivial⟩, rfl⟩
     ·rw [if_neg c39] at H
      refine aP 8 (.bool true) rfl (pr_bool (by kernel_rfl) (neT c39)) Keep.refl ?_
      refine aEnd ?_
      refine st 5 [true] ?_
      refine k_retQ (krL ?_)
      obtain rfl := Option.some.inj H
      obtain rfl := Option.some.inj HR34
      exact ⟨_, by kernel_rfl, rfl, rfl⟩
    ·refine st 2 [false] ?_
     refine k_out rfl ?_
     obtain rfl := Option.some.inj H
     exact xE ⟨rfl, trivial, rfl⟩
  ·rintro ρ h1 ⟨rfl, hf, rfl⟩
   have H := HR34
   try dsimp only at H
   refine k_fits _ hf ?_ rfl
   refine st 4 [] ?_
   refine k_retQ ?_
   obtain rfl := Option.some.inj H
   exact ⟨_, by kernel_rfl, rfl, rfl⟩
 ·refine st 6 [true] ?_
  refine k_retQ ?_
  obtain rfl := Option.some.inj H
  exact ⟨_, by kernel_rfl, rfl, rfl⟩

/-! shutter/shutterref01.Word -/
def shutterref01_Word.l1.m (K : Nat) (x0 : ByteArray) (x1 : Int) : Nat → Int → Int → Option (Int)
  | 0, _, _ => none
  | k + 1, x21, x22 => (if x22 < (w64 ((w64 (8 * x1)) + 8)) then (if 0 ≤ x22 then (if x22 < (x0.size : Int) then (if (bt x0 x22) ≥ 97 then (shutterref01_Word.l1.m K x0 x1 k (w64 ((w64 (16 * x21)) + (w64 ((w64 ((bt x0 x22))) - 87)))) (w64 (x22 + 1))) else (shutterref01_Word.l1.m K x0 x1 k (w64 ((w64 (16 * x21)) + (w64 ((w64 ((bt x0 x22))) - 48)))) (w64 (x22 + 1)))) else none) else none) else (some (x21)))
def shutterref01_Word.m (K : Nat) (x0 : ByteArray) (x1 : Int) : Option Int :=
  ((shutterref01_Word.l1.m K x0 x1 K 0 (w64 (8 * x1))).bind fun x24 => (some x24))

theorem shutterref01_Word.calls {K : Nat} {x0 : ByteArray} {x1 : Int} {h : Heap} {r : Int} (H : shutterref01_Word.m K x0 x1 = some r)   :
    Ret Tryd.prog 57 #[.string x0, .int .i64 x1] h (fun v h' => .int .i64 r = v ∧ h' = h) := by
 unfold shutterref01_Word.m at H
 refine fn_of (args := [.string x0, .int .i64 x1]) (rs := [.tmp 4]) (N := 36) Tryd.func57 rfl rfl rfl rfl ?_
 refine st 16 [] ?_
 obtain ⟨s23, m26, HR25⟩ := bind_some H
 refine k_loop 0 (fun k' ρ h1 => ∃ (x21 : Int) (x22 : Int), shutterref01_Word.l1.m K x0 x1 k' x21 x22 = some s23 ∧ Fits [(0, .string x0), (1, .int .i64 x1), (5, .int .i64 x21), (6, .int .i64 x22)] ρ ∧ h = h1) (fun ρ h1 => ∃ (x24 : Int), x24 = s23 ∧ Fits [(5, .int .i64 x24)] ρ ∧ h = h1) K ⟨0, (w64 (8 * x1)), m26, ⟨by kernel_rfl, by kernel_rfl, by kernel_rfl, by kernel_rfl, trivial⟩, rfl⟩ ?_ rfl ?_
 ·clear HR25 m26 H
  rintro k' ρ h1 ⟨x21, x22, H, hf, rfl⟩
  cases k' with
  | zero => cases H
  | succ k =>
   rw [shutterref01_Word.l1.m] at H
   refine k_fits _ hf ?_ rfl
   refine st 7 [] (k_ite H (fun c27 H => ?_) (fun c27 H => ?_))
   ·obtain ⟨c28, H⟩ := guard_pos H
    obtain ⟨c29, H⟩ := guard_pos H
    refine st 9 [true] (k_val (.int .u8 (bt x0 x22)) (pr_indexStr (s := x0) (k := .i64) (i := x22) (by kernel_rfl) (by kernel_rfl) (by kernel_rfl) c28 c29) ?_)
    refine st 9 [] (k_val (.int .u8 (bt x0 x22)) (pr_indexStr (s := x0) (k := .i64) (i := x22) (by kernel_rfl) (by kernel_rfl) (by kernel_rfl) c28 c29) ?_)
    refine k_ite H (fun c30 H => ?_) (fun c30 H => ?_)
    ·refine st 5 [true] (k_val (.int .u8 (bt x0 x22)) (pr_indexStr (s := x0) (k := .i64) (i := x22) (by kernel_rfl) (by kernel_rfl) (by kernel_rfl) c28 c29) ?_)
     refine st 17 [] ?_
     exact k_endL ⟨k, Nat.lt_succ_self _, (w64 ((w64 (16 * x21)) + (w64 ((w64 ((bt x0 x22))) - 87)))), (w64 (x22 + 1)), H, ⟨by kernel_rfl, by kernel_rfl, by kernel_rfl, by kernel_rfl, trivial⟩, rfl⟩
    ·refine st 16 [false] ?_
     exact k_endL ⟨k, Nat.lt_succ_self _, (w64 ((w64 (16 * x21)) + (w64 ((w64 ((bt x0 x22))) - 48)))), (w64 (x22 + 1)), H, ⟨by kernel_rfl, by kernel_rfl, by kernel_rfl, by kernel_rfl, trivial⟩, rfl⟩
   ·refine st 2 [false] ?_
    refine k_out rfl ?_
    obtain rfl := Option.some.inj H
    exact xE ⟨x21, rfl, ⟨by kernel_rfl, trivial⟩, rfl⟩
 ·rintro ρ h1 ⟨x24, rfl, hf, rfl⟩
  have H := HR25
  try dsimp only at H
  refine k_fits _ hf ?_ rfl
  refine st 5 [] ?_
  refine k_retQ ?_
  obtain rfl := Option.some.inj H
  exact ⟨_, by kernel_rfl, rfl, rfl⟩

/-! shutter/shutterref01.Fill -/
def shutterref01_Fill.l1.m (K : Nat) : Nat → (List Int) → Option ((List Int))
  | 0, _ => none
  | k + 1, x39 => (if (Int.tmod (x39.length : Int) 64) = 56 then (some (x39)) else ((app x39 [0]).bind fun l55 => (shutterref01_Fill.l1.m K k l55)))
def shutterref01_Fill.l2.m (K : Nat) (x0 : (List Int)) : Nat → (List Int) → Int → Option ((List Int))
  | 0, _, _ => none
  | k + 1, x60, x65 => (if x65 < 8 then (if 0 ≤ (IntKind.u64.wrap ((w64 (56 - (w64 (8 * x65)))))) then ((app x60 [(IntKind.u8.wrap ((bAnd .i64 (shr .i64 (w64 (8 * (x0.length : Int))) (IntKind.u64.wrap ((w64 (56 - (w64 (8 * x65))))))) 255)))]).bind fun l78 => (shutterref01_Fill.l2.m K x0 k l78 (w64 (x65 + 1)))) else none) else (some (x60)))
def shutterref01_Fill.m (K : Nat) (x0 : (List Int)) : Option (List Int) :=
  ((app [] x0).bind fun l27 => ((app l27 [128]).bind fun l34 => ((shutterref01_Fill.l1.m K K l34).bind fun x45 => ((shutterref01_Fill.l2.m K x0 K x45 0).bind fun x67 => (some x67)))))

theorem shutterref01_Fill.calls {B I : Gh} {h : Heap} {K : Nat} {x0 : (List Int)} {a21 : Option Addr} {p22 : Nat} {n23 : Nat} {r : (List Int)} (H : shutterref01_Fill.m K x0 = some r)  :
    Fc Tryd.prog 58 #[.slice a21 n23 p22] [rR (tInt .u8) .b a21 p22 n23 x0] B I h (fun v L => ∃ (a83 : Option Addr) (p84 : Nat) (n85 : Nat), v = .slice a83 n85 p84 ∧ L = [rO (tInt .u8) .i a83 p84 n85 r]) := by
 refine fc_of fun E hs => ?_
 unfold shutterref01_Fill.m at H
 obtain rfl := hs.nR d0
 refine fn_of (args := [.slice a21 x0.length p22]) (rs := [.tmp 2]) (N := 37) Tryd.func58 rfl rfl rfl rfl ?_
 refine st 6 [] (k_op (nS (e := 5) hs .i (tInt .u8) ([] : List Int) [] 1 (.int .u8 0) (Reps.int (I := (Cl.G .i E.B I)) (k := .u8) (l := [])) ?_))
 intro b25 h hs
 obtain ⟨l27, m28, H⟩ := bind_some H
 refine st 1 [] (k_op (aO (e := 5) (bytes := 1) hs ((hs.sR d1).flat flat_int) m28 ?_))
 intro a29 p30 h hs
 refine k_op (nS (e := 5) hs .i (tInt .u8) ([128] : List Int) [.int .u8 128] 1 (.int .u8 0) (Reps.int (I := (Cl.G .i E.B I)) (k := .u8) (l := [128])) ?_)
 intro b32 h hs
 replace hs := (hs.f d1)
 obtain ⟨l34, m35, H⟩ := bind_some H
 refine k_op (aO (e := 5) (bytes := 1) hs (hs.sO d1) m35 ?_)
 intro a36 p37 h hs
 refine st 4 [] ?_
 obtain ⟨s44, m51, HR50⟩ := bind_some H
 refine k_loop 0 (fun k' ρ h => ∃ (x39 : List Int) (a40 : Option Addr) (p41 : Nat) (n42 : Nat) (I : Gh), shutterref01_Fill.l1.m K k' x39 = some s44 ∧ Fits [(0, .slice a21 x0.length p22), (3, .slice a40 n42 p41)] ρ ∧ St E [rR (tInt .u8) .b a21 p22 x0.length x0, rO (tInt .u8) .i a40 p41 n42 x39] I h) (fun ρ h => ∃ (x45 : List Int) (a46 : Option Addr) (p47 : Nat) (n48 : Nat) (I : Gh), x45 = s44 ∧ Fits [(0, .slice a21 x0.length p22), (3, .slice a46 n48 p47)] ρ ∧ St E [rR (tInt .u8) .b a21 p22 x0.length x0, rO (tInt .u8) .i a46 p47 n48 x45] I h) K ⟨l34, a36, p37, l34.length, I, m51, ⟨by kernel_rfl, by kernel_rfl, trivial⟩, hs.pk (.c d2 (.c d0 .n))⟩ ?_ rfl ?_
 ·clear HR50 m51 H
  rintro k' ρ h ⟨x39, a40, p41, n42, I, H, hf, hs⟩
  cases k' with
  | zero => cases H
  | succ k =>
   rw [shutterref01_Fill.l1.m] at H
   refine k_fits _ hf ?_ rfl
   obtain rfl := hs.nO d1
   refine st 6 [] (k_iteN H (fun c52 H => ?_) (fun c52 H => ?_))
   ·refine st 2 [false] ?_
    refine k_out rfl ?_
    obtain rfl := Option.some.inj H
    exact xE ⟨x39, a40, p41, x39.length, I, rfl, ⟨by kernel_rfl, by kernel_rfl, trivial⟩, hs.pk (.c d0 (.c d0 .n))⟩
   ·refine st 6 [true] (k_op (nS (e := 5) hs .i (tInt .u8) ([0] : List Int) [.int .u8 0] 1 (.int .u8 0) (Reps.int (I := (Cl.G .i E.B I)) (k := .u8) (l := [0])) ?_))
    intro b53 h hs
    replace hs := (hs.f d2)
    obtain ⟨l55, m56, H⟩ := bind_some H
    refine k_op (aO (e := 5) (bytes := 1) hs (hs.sO d1) m56 ?_)
    intro a57 p58 h hs
    refine st 3 [] ?_
    exact k_endL ⟨k, Nat.lt_succ_self _, l55, a57, p58, l55.length, I, H, ⟨by kernel_rfl, by kernel_rfl, trivial⟩, hs.pk (.c d2 (.c d0 .n))⟩
 ·rintro ρ h ⟨x45, a46, p47, n48, I, rfl, hf, hs⟩
  have H := HR50
  try dsimp only at H
  refine k_fits _ hf ?_ rfl
  obtain rfl := hs.nO d1
  refine st 13 [] ?_
  obtain ⟨s66, m73, HR72⟩ := bind_some H
  refine k_loop 2 (fun k' ρ h => ∃ (x60 : List Int) (x65 : Int) (a61 : Option Addr) (p62 : Nat) (n63 : Nat) (I : Gh), shutterref01_Fill.l2.m K x0 k' x60 x65 = some s66 ∧ Fits [(3, .slice a61 n63 p62), (4, .int .i64 (w64 (8 * (x0.length : Int)))), (5, .int .i64 x65)] ρ ∧ St E [rO (tInt .u8) .i a61 p62 n63 x60] I h) (fun ρ h => ∃ (x67 : List Int) (a68 : Option Addr) (p69 : Nat) (n70 : Nat) (I : Gh), x67 = s66 ∧ Fits [(3, .slice a68 n70 p69)] ρ ∧ St E [rO (tInt .u8) .i a68 p69 n70 x67] I h) K ⟨x45, 0, a46, p47, x45.length, I, m73, ⟨by kernel_rfl, by kernel_rfl, by kernel_rfl, trivial⟩, hs.pk (.c d1 .n)⟩ ?_ rfl ?_
  ·clear HR72 m73 H
   rintro k' ρ h ⟨x60, x65, a61, p62, n63, I, H, hf, hs⟩
   cases k' with
   | zero => cases H
   | succ k =>
    rw [shutterref01_Fill.l2.m] at H
    refine k_fits _ hf ?_ rfl
    obtain rfl := hs.nO d0
    refine st 4 [] (k_ite H (fun c74 H => ?_) (fun c74 H => ?_))
    ·obtain ⟨c75, H⟩ := guard_pos H
     refine st 12 [true] (k_val (.int .i64 (shr .i64 (w64 (8 * (x0.length : Int))) (IntKind.u64.wrap ((w64 (56 - (w64 (8 * x65)))))))) (pr_shr (k := .i64) (yk := .u64) (a := (w64 (8 * (x0.length : Int)))) (b := (IntKind.u64.wrap ((w64 (56 - (w64 (8 * x65))))))) (by kernel_rfl) (by kernel_rfl) c75) ?_)
     refine st 2 [] (k_op (nS (e := 5) hs .i (tInt .u8) ([(IntKind.u8.wrap ((bAnd .i64 (shr .i64 (w64 (8 * (x0.length : Int))) (IntKind.u64.wrap ((w64 (56 - (w64 (8 * x65))))))) 255)))] : List Int) [.int .u8 (IntKind.u8.wrap ((bAnd .i64 (shr .i64 (w64 (8 * (x0.length : Int))) (IntKind.u64.wrap ((w64 (56 - (w64 (8 * x65))))))) 255)))] 1 (.int .u8 0) (Reps.int (I := (Cl.G .i E.B I)) (k := .u8) (l := [(IntKind.u8.wrap ((bAnd .i64 (shr .i64 (w64 (8 * (x0.length : Int))) (IntKind.u64.wrap ((w64 (56 - (w64 (8 * x65))))))) 255)))])) ?_))
     intro b76 h hs
     replace hs := (hs.f d1)
     obtain ⟨l78, m79, H⟩ := bind_some H
     refine k_op (aO (e := 5) (bytes := 1) hs (hs.sO d1) m79 ?_)
     intro a80 p81 h hs
     refine st 8 [] ?_
     exact k_endL ⟨k, Nat.lt_succ_self _, l78, (w64 (x65 + 1)), a80, p81, l78.length, I, H, ⟨by kernel_rfl, by kernel_rfl, by kernel_rfl, trivial⟩, hs.pk (.c d0 .n)⟩
    ·refine st 2 [false] ?_
     refine k_out rfl ?_
     obtain rfl := Option.some.inj H
     exact xE ⟨x60, a61, p62, x60.length, I, rfl, ⟨by kernel_rfl, trivial⟩, hs.pk (.c d0 .n)⟩
  ·rintro ρ h ⟨x67, a68, p69, n70, I, rfl, hf, hs⟩
   have H := HR72
   try dsimp only at H
   refine k_fits _ hf ?_ rfl
   obtain rfl := hs.nO d0
   refine st 5 [] ?_
   refine k_retQ ?_
   obtain rfl := Option.some.inj H
   exact ⟨_, by kernel_rfl, I, _, ⟨a68, p69, x67.length, rfl, rfl⟩, hs.pk (.c d0 .n)⟩

/-! shutter/shutterref01.both -/
def shutterref01_both.m (x0 : Int) (x1 : Int) : Option Int :=
  (some (bAnd .i64 x0 x1))

theorem shutterref01_both.calls {x0 : Int} {x1 : Int} {h : Heap} {r : Int} (H : shutterref01_both.m x0 x1 = some r)   :
    Ret Tryd.prog 64 #[.int .i64 x0, .int .i64 x1] h (fun v h' => .int .i64 r = v ∧ h' = h) := by
 unfold shutterref01_both.m at H
 refine fn_of (args := [.int .i64 x0, .int .i64 x1]) (rs := [.tmp 4]) (N := 8) Tryd.func64 rfl rfl rfl rfl ?_
 refine st 11 [] ?_
 refine k_retQ ?_
 obtain rfl := Option.some.inj H
 exact ⟨_, by kernel_rfl, rfl, rfl⟩

/-! shutter/shutterref01.turn -/
def shutterref01_turn.m (x0 : Int) (x1 : Int) : Option Int :=
  (if 0 ≤ (IntKind.u64.wrap (x1)) then (if 0 ≤ (IntKind.u64.wrap ((w64 (32 - x1)))) then (some (bAnd .i64 (bOr .i64 (shr .i64 x0 (IntKind.u64.wrap (x1))) (shl .i64 x0 (IntKind.u64.wrap ((w64 (32 - x1)))))) 4294967295)) else none) else none)

theorem shutterref01_turn.calls {x0 : Int} {x1 : Int} {h : Heap} {r : Int} (H : shutterref01_turn.m x0 x1 = some r)   :
    Ret Tryd.prog 63 #[.int .i64 x0, .int .i64 x1] h (fun v h' => .int .i64 r = v ∧ h' = h) := by
 unfold shutterref01_turn.m at H
 refine fn_of (args := [.int .i64 x0, .int .i64 x1]) (rs := [.tmp 4]) (N := 16) Tryd.func63 rfl rfl rfl rfl ?_
 obtain ⟨c21, H⟩ := guard_pos H
 refine st 9 [] (k_val (.int .i64 (shr .i64 x0 (IntKind.u64.wrap (x1)))) (pr_shr (k := .i64) (yk := .u64) (a := x0) (b := (IntKind.u64.wrap (x1))) (by kernel_rfl) (by kernel_rfl) c21) ?_)
 obtain ⟨c22, H⟩ := guard_pos H
 refine st 4 [] (k_val (.int .i64 (shl .i64 x0 (IntKind.u64.wrap ((w64 (32 - x1)))))) (pr_shl (k := .i64) (yk := .u64) (a := x0) (b := (IntKind.u64.wrap ((w64 (32 - x1))))) (by kernel_rfl) (by kernel_rfl) c22) ?_)
 refine st 4 [] ?_
 refine k_retQ ?_
 obtain rfl := Option.some.inj H
 exact ⟨_, by kernel_rfl, rfl, rfl⟩

end Go.Proofs.YtooaghempnlclaaDoor.Sx
