/- Printed walks, part 1: each function's model, and that the code comes to it. -/
import Derived.Test.YtooaghempnlclaaProg
import Derived.Test.YtooaghempnlclaaV3
import Derived.Test.YtooaghempnlclaaV5
import Derived.Test.YtooaghempnlclaaG0
namespace Go.Proofs.Ytooaghempnlclaa.Sx
open Go
set_option maxRecDepth 100000

/-! slices.Insert[[][]byte,[]byte] -/
def slices_Insert_byte.m (x0 : List (List Int)) (i : Int) (x2 : List (List Int)) : Option (List (List Int)) := ins0 x0 i x2
theorem slices_Insert_byte.calls {B I : Gh} {h : Heap} {x0 x2 : List (List Int)} {i : Int} {a1 a2 : Option Addr} {p1 p2 n1 n2 : Nat} {r : List (List Int)} (H : slices_Insert_byte.m x0 i x2 = some r) :
    Fc Try.prog 17 #[.slice a1 n1 p1, .int .i64 i, .slice a2 n2 p2] [rO (tSl (tInt .u8)) .i a1 p1 n1 x0, rO (tSl (tInt .u8)) .i a2 p2 n2 x2] B I h (fun v L => ∃ (a : Option Addr) (p n : Nat), v = .slice a n p ∧ L = [rO (tSl (tInt .u8)) .i a p n r]) := by
  refine fc_of fun E hs => ?_
  unfold slices_Insert_byte.m ins0 at H
  obtain ⟨rfl, H1⟩ := guard_pos H
  clear H
  obtain ⟨hl2, H⟩ := guard_pos H1
  clear H1
  obtain ⟨y, rfl⟩ : ∃ y, x2 = [y] := by
    match x2, hl2 with
    | [y], _ => exact ⟨y, rfl⟩
  obtain rfl := hs.nO d0
  obtain rfl := hs.nO d1
  cases x0 with
  | nil =>
    refine fn_of (args := [.slice a1 ([] : List (List Int)).length p1, .int .i64 0, .slice a2 [y].length p2]) (rs := [.tmp 6]) (N := 95) Try.func17 rfl rfl rfl rfl ?_
    refine st 8 [] (k_val (.slice (slA a1 p1 (0 : Int).toNat 1) (sub ([] : List (List Int)) 0 (([] : List (List Int)).length : Int)).length (p1 - (0 : Int).toNat)) (pSl (e := 22) (k1 := .i64) (hs.sO d0) (Int.le_refl 0) (by simp) (Int.le_refl _)) ?_)
    refine st 33 [false, true] (k_op (aO (e := 22) (bytes := 24) hs (hs.sO d1) (r := [y]) (by simp [app, Lim]) ?_))
    intro a p h hs
    refine st 2 [] ?_
    refine k_retQ ?_
    have hr := (app_some H).2
    rw [List.append_nil] at hr
    subst hr
    exact ⟨_, by kernel_rfl, I, _, ⟨a, p, _, rfl, rfl⟩, hs.pk (.c d0 .n)⟩
  | cons z zs =>
    have hg0 := hs.g d0
    have hg1 := hs.g d1
    have hle := hg0.1.1.le
    have hle2 := hg1.1.1.le
    simp only [List.length_cons, List.length_nil] at hle hle2
    obtain ⟨⟨b, o, sp⟩, rfl⟩ : ∃ ad, a1 = some ad := by
      cases a1 with
      | none => have := (hg0.1.1.nil rfl).1; cases this
      | some ad => exact ⟨ad, rfl⟩
    obtain ⟨⟨b2, o2, sp2⟩, rfl⟩ : ∃ ad, a2 = some ad := by
      cases a2 with
      | none => have := (hg1.1.1.nil rfl).1; cases this
      | some ad => exact ⟨ad, rfl⟩
    obtain ⟨hsp, c0, t0, hb0, hf0⟩ := hg0.1.2.ow _ rfl
    obtain ⟨hsp2, c2, t2, hb2, hf2⟩ := hg1.1.2.ow _ rfl
    obtain rfl : sp = none := hsp
    obtain rfl : sp2 = none := hsp2
    simp only at hb0 hb2 hf0 hf2
    have hf0' : o + p1 ≤ c0.size := by simpa [tSl] using hf0
    have hne : b2 ≠ b := fun e => hs.sep.1.2.2 b ⟨_, rfl, rfl⟩ (.inl ⟨_, rfl, e⟩)
    obtain ⟨hlim, hr⟩ := app_some H
    subst hr
    have hlim2 : zs.length + 2 ≤ 1099511627776 := by unfold Lim at hlim; simp only [List.length_cons, List.length_nil] at hlim; omega
    clear hlim
    have hw : w64 ((((z :: zs).length : Nat) : Int) + ((([y] : List (List Int)).length : Nat) : Int)) = ((zs.length + 2 : Nat) : Int) := by
      simp only [List.length_cons, List.length_nil]
      rw [w64, IntKind.wrap_i64]; omega
    refine fn_of (args := [.slice (some ⟨b, o, none⟩) (z :: zs).length p1, .int .i64 0, .slice (some ⟨b2, o2, none⟩) [y].length p2]) (rs := [.tmp 6]) (N := 95) Try.func17 rfl rfl rfl rfl ?_
    refine st 8 [] (k_val (.slice (some ⟨b, o + 0, none⟩) ((z :: zs).length - 0) (p1 - 0)) (pXl (e := 22) (k1 := .i64) 0 (by simp) (by simpa using hle) (by omega)) ?_)
    have H0 : (if w64 ((((z :: zs).length : Nat) : Int) + ((([y] : List (List Int)).length : Nat) : Int)) > (p1 : Int) then some () else some ()) = some () := by split <;> rfl
    refine st 38 [false, false] (k_ite H0 (fun c H0 => ?_) (fun c H0 => ?_))
    · clear H0
      have hk : p1 < zs.length + 2 := by rw [hw] at c; omega
      have hrz : (tSl (tInt .u8)).rep ((Cl.i).G E.B I) h [.slice none 0 0] ([] : List Int) := ⟨none, 0, 0, rfl, rd_nil _ _ _, rfl⟩
      refine st 6 [true] (k_val (.slice (some ⟨b, o, none⟩) 0 p1) (pXh (e := 22) (k2 := .i64) (n := (z :: zs).length) 0 (by omega) (by omega)) ?_)
      refine st 4 [] (k_val (.int .i64 ((zs.length + 2 : Nat) : Int)) (pr_eq (v := .int .i64 (w64 (w64 ((((z :: zs).length : Nat) : Int) + ((([y] : List (List Int)).length : Nat) : Int)) - 0))) (by kernel_rfl) ?_) ?_)
      · rw [hw, w64, IntKind.wrap_i64]; exact congrArg (Value.int .i64) (by omega)
      have hfit : Builtin.nextslicecap (0 + (zs.length + 2)) p1 * 24 ≤ 281474976710656 := growslice_fits (need := 0 + (zs.length + 2)) (old := p1) (bytes := 24) (by omega) (by omega)
      refine k_op (owp_appendZ (e := 22) (T := tSl (tInt .u8)) (G := (Cl.i).G E.B I) (I := I) (b := b) (o := o) (cap := p1) (k := zs.length + 2) (bytes := 24) (kn := .i64) ([] : List Int) (.slice none 0 0) (by kernel_rfl) (by kernel_rfl) (elemOk_of (by kernel_rfl)) (by kernel_rfl) rfl hs.bd hs.bdG hrz hk hfit
        (by omega) (by omega) (by kernel_rfl) (by kernel_rfl) ?_)
      intro b3 p3 h3 hb3 hp3 ho3
      have hs := own_new (k := .i) hs hb3 hp3 ho3 (List.length_replicate (n := zs.length + 2))
      have hle3 := (hs.g d0).1.1.le
      rw [List.length_replicate] at hle3
      refine st 6 [] (k_val (.slice (some ⟨b3, 0 + 0, none⟩) (zs.length + 2 - 0) (p3 - 0)) (pXl (e := 22) (k1 := .i64) 0 (by omega) hle3 (by omega)) ?_)
      obtain ⟨cy, ty, fy, hby, _, hfy, _, ry⟩ := (hs.g d2).1.1.reps _ rfl (by omega)
      refine st 1 [] (k_op (owp_copyAt (e := 22) (T := tSl (tInt .u8)) (G := (Cl.i).G E.B I) (I := I) (b := b3) (o := 0) (b2 := b2) (o2 := o2) (cap := p3) (dn := zs.length + 2 - 0) (dc := p3 - 0) (sn := 1) (sc := p2) (p := 0) (l := List.replicate (zs.length + 2) []) (m := [y]) (cs := Sx.seg cy o2 (([y] : List (List Int)).length * (tSl (tInt .u8)).size))
        (by kernel_rfl) (by kernel_rfl) rfl hs.bd hs.bdG (hs.ow d0) (hs.notG d0 _ ⟨_, rfl, rfl⟩) ry (fun w hw => cells_at (by rw [hw]; exact hby)) (by simp) (by simp only [List.length_cons, List.length_nil]; omega)
        (by simp only [List.length_cons, List.length_nil]; simp only [Nat.min_def]; split <;> omega) (by kernel_rfl) (by kernel_rfl) ?_))
      intro h4 hp4 ho4
      have e4 : List.take 0 (List.replicate (zs.length + 2) ([] : List Int)) ++ [y] ++ List.drop (0 + ([y] : List (List Int)).length) (List.replicate (zs.length + 2) []) = y :: List.replicate (zs.length + 1) [] := by simp [List.drop_replicate]
      rw [e4] at ho4
      have hs := own_upd hs hp4 ho4 (n2 := zs.length + 2) (by simp) (fun _ y => .inl y)
      refine st 2 [] ?_
      obtain ⟨hs0, bk0⟩ := hs.call tk3 .n
      have hs := hs0
      refine k_regD hs0 8 ?_
      refine aRun [0, 1, 2, 3] 5 hs.keep ?_
      refine aP 4 (.slice (some ⟨b3, 0 + 1, none⟩) (zs.length + 2 - 1) (p3 - 1)) rfl (pXl (e := 22) (k1 := .i64) 1 (by omega) hle3 (by omega)) hs.keep ?_
      refine aRun [5, 6] 2 hs.keep ?_
      refine aP 7 (.slice (some ⟨b, o + 0, none⟩) ((z :: zs).length - 0) (p1 - 0)) rfl (pXl (e := 22) (k1 := .i64) 0 (by omega) (by simp only [List.length_cons]; omega) (by omega)) hs.keep ?_
      replace hs := bk0 hs ct3 rfl
      obtain ⟨cz, tz, fz, hbz, _, hfz, _, rz⟩ := (hs.g d1).1.1.reps _ rfl (by omega)
      refine aOL 8 rfl (owp_copyAt (e := 22) (T := tSl (tInt .u8)) (G := (Cl.i).G E.B I) (I := I) (b := b3) (o := 0) (b2 := b) (o2 := o + 0) (cap := p3) (dn := zs.length + 2 - 1) (dc := p3 - 1) (sn := (z :: zs).length - 0) (sc := p1 - 0) (p := 1) (l := y :: List.replicate (zs.length + 1) []) (m := z :: zs) (cs := Sx.seg cz o ((z :: zs).length * (tSl (tInt .u8)).size))
        (by kernel_rfl) (by kernel_rfl) rfl hs.bd hs.bdG (hs.ow d0) (hs.notG d0 _ ⟨_, rfl, rfl⟩) rz (fun w hw => cells_at (by rw [hw]; exact hbz)) (by simp) (by simp only [List.length_cons]; omega)
        (by simp only [List.length_cons, Nat.min_def]; split <;> omega) (by kernel_rfl) (by kernel_rfl) ?_)
      intro h5 hp5 ho5
      have e5 : List.take 1 (y :: List.replicate (zs.length + 1) ([] : List Int)) ++ (z :: zs) ++ List.drop (1 + (z :: zs).length) (y :: List.replicate (zs.length + 1) []) = y :: z :: zs := by
        rw [List.drop_eq_nil_of_le (by simp; omega)]; simp
      rw [e5] at ho5
      have hs := own_upd hs hp5 ho5 (n2 := zs.length + 2) (by simp) (fun _ y => .inl y)
      refine aEnd ?_
      refine st 5 [] ?_
      refine k_retQ ?_
      exact ⟨_, by kernel_rfl, I, _, ⟨some ⟨b3, 0, none⟩, p3, zs.length + 2, rfl, rfl⟩, hs.pk (.c d0 .n)⟩
    · clear H0
      have hk : zs.length + 2 ≤ p1 := by rw [hw] at c; omega
      refine st 8 [false] (k_val (.int .i64 ((zs.length + 2 : Nat) : Int)) (pr_eq (v := .int .i64 (w64 ((((z :: zs).length : Nat) : Int) + ((([y] : List (List Int)).length : Nat) : Int)))) (by kernel_rfl) (by rw [hw])) ?_)
      refine k_val (.slice (some ⟨b, o, none⟩) (zs.length + 2) p1) (pXh (e := 22) (k2 := .i64) (n := (z :: zs).length) (zs.length + 2) hk (by omega)) ?_
      refine st 10 [] (k_val (.slice (some ⟨b, o + 1, none⟩) (zs.length + 2 - 1) (p1 - 1)) (pXl (e := 22) (k1 := .i64) 1 (by omega) hk (by omega)) ?_)
      refine k_op (owp_ovl (tS := 33) (tR := 4) (e := 22) (size := 1) (a := ⟨b2, o2, none⟩) (b := ⟨b, o + 1, none⟩) (la := 1) (ca := p2) (lb := zs.length + 2 - 1) (cb := p1 - 1) Try.func26 (by kernel_rfl) (by kernel_rfl) (by kernel_rfl) (by kernel_rfl) (by kernel_rfl) (by kernel_rfl) hne hb2 hb0 (by omega) (by kernel_rfl) (by kernel_rfl) ?_)
      refine st 4 [true] ?_
      obtain ⟨hs0, bk0⟩ := hs.call tk2 .n
      have hs := hs0
      refine k_regD hs0 8 ?_
      refine aRun [0, 1, 2, 3] 5 hs.keep ?_
      refine aP 4 (.slice (some ⟨b, o + 1, none⟩) (zs.length + 2 - 1) (p1 - 1)) rfl (pXl (e := 22) (k1 := .i64) 1 (by omega) hk (by omega)) hs.keep ?_
      refine aRun [5, 6] 2 hs.keep ?_
      refine aP 7 (.slice (some ⟨b, o + 0, none⟩) (zs.length + 2 - 0) (p1 - 0)) rfl (pXl (e := 22) (k1 := .i64) 0 (by omega) hk (by omega)) hs.keep ?_
      replace hs := bk0 hs ct2 rfl
      obtain ⟨cz, tz, fz, hbz, _, hfz, _, rz⟩ := (hs.g d0).1.1.reps _ rfl (by omega)
      refine aOL 8 rfl (owp_copyAt (e := 22) (T := tSl (tInt .u8)) (G := (Cl.i).G E.B I) (I := I) (b := b) (o := o) (b2 := b) (o2 := o + 0) (cap := p1) (dn := zs.length + 2 - 1) (dc := p1 - 1) (sn := zs.length + 2 - 0) (sc := p1 - 0) (p := 1) (l := z :: zs) (m := z :: zs) (cs := Sx.seg cz o ((z :: zs).length * (tSl (tInt .u8)).size))
        (by kernel_rfl) (by kernel_rfl) rfl hs.bd hs.bdG (hs.ow d0) (hs.notG d0 _ ⟨_, rfl, rfl⟩) rz (fun w hw => cells_at (by rw [hw]; exact hbz)) (by simp) (by simp only [List.length_cons]; omega)
        (by simp only [List.length_cons, Nat.min_def]; split <;> omega) (by kernel_rfl) (by kernel_rfl) ?_)
      intro h5 hp5 ho5
      have e5 : List.take 1 (z :: zs) ++ (z :: zs) ++ List.drop (1 + (z :: zs).length) (z :: zs) = z :: z :: zs := by
        rw [List.drop_eq_nil_of_le (by simp)]; simp
      rw [e5] at ho5
      have hs := own_upd hs hp5 ho5 (n2 := zs.length + 2) (by simp) (fun _ y => .inl y)
      refine aEnd ?_
      refine st 4 [] (k_val (.slice (some ⟨b, o + 0, none⟩) (zs.length + 2 - 0) (p1 - 0)) (pXl (e := 22) (k1 := .i64) 0 (by omega) hk (by omega)) ?_)
      obtain ⟨cy, ty, fy, hby, _, hfy, _, ry⟩ := (hs.g d1).1.1.reps _ rfl (by omega)
      refine st 1 [] (k_op (owp_copyAt (e := 22) (T := tSl (tInt .u8)) (G := (Cl.i).G E.B I) (I := I) (b := b) (o := o) (b2 := b2) (o2 := o2) (cap := p1) (dn := zs.length + 2 - 0) (dc := p1 - 0) (sn := 1) (sc := p2) (p := 0) (l := z :: z :: zs) (m := [y]) (cs := Sx.seg cy o2 (([y] : List (List Int)).length * (tSl (tInt .u8)).size))
        (by kernel_rfl) (by kernel_rfl) rfl hs.bd hs.bdG (hs.ow d0) (hs.notG d0 _ ⟨_, rfl, rfl⟩) ry (fun w hw => cells_at (by rw [hw]; exact hby)) (by simp) (by simp only [List.length_cons, List.length_nil]; omega)
        (by simp only [List.length_cons, List.length_nil]; simp only [Nat.min_def]; split <;> omega) (by kernel_rfl) (by kernel_rfl) ?_))
      intro h6 hp6 ho6
      have e6 : List.take 0 (z :: z :: zs) ++ [y] ++ List.drop (0 + ([y] : List (List Int)).length) (z :: z :: zs) = y :: z :: zs := rfl
      rw [e6] at ho6
      have hs := own_upd hs hp6 ho6 (n2 := zs.length + 2) (by simp) (fun _ y => .inl y)
      refine st 6 [] ?_
      refine k_retQ ?_
      exact ⟨_, by kernel_rfl, I, _, ⟨some ⟨b, o, none⟩, p1, zs.length + 2, rfl, rfl⟩, hs.pk (.c d0 .n)⟩

/-! slices.Clone[[][]byte,[]byte] -/
def slices_Clone_byte.m (x0 : (List (List Int))) : Option (List (List Int)) :=
  ((app [] x0).bind fun l29 => (some l29))

theorem slices_Clone_byte.calls {B I : Gh} {h : Heap} {x0 : (List (List Int))} {a21 : Option Addr} {p22 : Nat} {n23 : Nat} {r : (List (List Int))} (H : slices_Clone_byte.m x0 = some r)  :
    Fc Try.prog 18 #[.slice a21 n23 p22] [rR (tSl (tInt .u8)) .i a21 p22 n23 x0] B I h (fun v L => ∃ (a34 : Option Addr) (p35 : Nat) (n36 : Nat), v = .slice a34 n36 p35 ∧ L = [rO (tSl (tInt .u8)) .i a34 p35 n36 r]) := by
 refine fc_of fun E hs => ?_
 unfold slices_Clone_byte.m at H
 obtain rfl := hs.nR d0
 refine fn_of (args := [.slice a21 x0.length p22]) (rs := [.tmp 2]) (N := 8) Try.func18 rfl rfl rfl rfl ?_
 rcases a21 with _ | ad25
 ·have e26 := ((hs.sR d0).toSl.nil rfl).1
  replace H : (some []) = some r := by simpa [app, Lim, e26] using H
  refine st 15 [true] ?_
  refine k_retQ ?_
  obtain rfl := Option.some.inj H
  exact ⟨_, by kernel_rfl, I, _, ⟨none, 0, 0, rfl, rfl⟩, hs.pk (.f imON .n)⟩
 ·refine st 14 [false] (k_op (nS (e := 22) hs .i (tSl (tInt .u8)) ([] : List (List Int)) [] 1 (.slice none 0 0) (.nil : Reps (tSl (tInt .u8)) (Cl.G .i E.B I) h [] []) ?_))
  intro b27 h hs
  obtain ⟨l29, m30, H⟩ := bind_some H
  refine st 1 [] (k_op (aO (e := 22) (bytes := 24) hs (hs.sR d1) m30 ?_))
  intro a31 p32 h hs
  refine st 2 [] ?_
  refine k_retQ ?_
  obtain rfl := Option.some.inj H
  exact ⟨_, by kernel_rfl, I, _, ⟨a31, p32, l29.length, rfl, rfl⟩, hs.pk (.c d0 .n)⟩

/-! shutter/mac.turned -/
def mac_turned.l1.m (K : Nat) (x1 : Int) (l41 : List Int) : Nat → (List Int) → Int → Option ((List Int))
  | 0, _, _ => none
  | k + 1, x45, x50 => (letJ (α := Bool → Option ((List Int))) (fun (x60 : Bool) => (bif x60 then (if 0 ≤ x50 then (if x50 < (x45.length : Int) then (mac_turned.l1.m K x1 l41 k (x45.set x50.toNat (bXor .u8 (at_ x45 x50) x1)) (w64 (x50 + 1))) else none) else none) else (some (x45)))) fun (j61 : Bool → Option ((List Int))) => (if x50 < (l41.length : Int) then (j61 true) else (j61 false)))
def mac_turned.m (K : Nat) (x0 : (List Int)) (x1 : Int) : Option (List Int) :=
  (letJ (α := (List Int) → Option (List Int)) (fun (x35 : List Int) => ((mk 64 0).bind fun l41 => ((mac_turned.l1.m K x1 l41 K (cpy l41 x35) 0).bind fun x52 => (some x52)))) fun (j40 : (List Int) → Option (List Int)) => (letJ (α := Bool → Option (List Int)) (fun (x26 : Bool) => (bif x26 then ((hash_Of.m K [x0]).bind fun t30 => (j40 t30)) else (j40 x0))) fun (j27 : Bool → Option (List Int)) => (if (x0.length : Int) > 64 then (j27 true) else (j27 false))))

theorem mac_turned.calls {B I : Gh} {h : Heap} {K : Nat} {x0 : (List Int)} {x1 : Int} {a21 : Option Addr} {p22 : Nat} {n23 : Nat} {r : (List Int)} (H : mac_turned.m K x0 x1 = some r)  :
    Fc Try.prog 19 #[.slice a21 n23 p22, .int .u8 x1] [rR (tInt .u8) .b a21 p22 n23 x0] B I h (fun v L => ∃ (a69 : Option Addr) (p70 : Nat) (n71 : Nat), v = .slice a69 n71 p70 ∧ L = [rO (tInt .u8) .i a69 p70 n71 r]) := by
 refine fc_of fun E hs => ?_
 unfold mac_turned.m at H
 obtain rfl := hs.nR d0
 refine fn_of (args := [.slice a21 x0.length p22, .int .u8 x1]) (rs := [.tmp 4]) (N := 33) Try.func19 rfl rfl rfl rfl ?_
 refine st 5 [] ?_
 obtain ⟨j40, e68, H⟩ := letJ_some H
 refine k_join (fun ρ h => ∃ (x35 : List Int) (a36 : Option Addr) (p37 : Nat) (n38 : Nat) (I : Gh), j40 x35 = some r ∧ Fits [(0, .slice a36 n38 p37), (1, .int .u8 x1)] ρ ∧ St E [rR (tInt .u8) .b a36 p37 n38 x35] I h) ?_ ?_
 ·refine st 1 [] ?_
  obtain ⟨j27, e34, H⟩ := letJ_some H
  refine k_join (fun ρ h => ∃ (x26 : Bool) (I : Gh), j27 x26 = some r ∧ Fits [(0, .slice a21 x0.length p22), (1, .int .u8 x1), (10, .bool x26)] ρ ∧ St E [rR (tInt .u8) .b a21 p22 x0.length x0] I h) ?_ ?_
  ·refine st 3 [] (k_ite H (fun c25 H => ?_) (fun c25 H => ?_))
   ·refine st 1 [] ?_
    exact k_end ⟨true, I, H, ⟨by kernel_rfl, by kernel_rfl, by kernel_rfl, trivial⟩, hs.pk (.c d0 .n)⟩
   ·refine st 1 [] ?_
    exact k_end ⟨false, I, H, ⟨by kernel_rfl, by kernel_rfl, by kernel_rfl, trivial⟩, hs.pk (.c d0 .n)⟩
  ·clear H
   rintro ρ h ⟨x26, I, H, hf, hs⟩
   refine k_fits _ hf ?_ rfl
   subst e34
   try dsimp only at H
   cases x26
   ·rw [cond_false] at H
    refine st 2 [false] ?_
    exact k_end ⟨x0, a21, p22, x0.length, I, H, ⟨by kernel_rfl, by kernel_rfl, trivial⟩, hs.pk (.c d0 .n)⟩
   ·rw [cond_true] at H
    refine st 4 [true] (k_op (nS (e := 22) hs .b (tSl (tInt .u8)) ([x0] : List (List Int)) [.slice a21 x0.length p22] 1 (.slice none 0 0) (Reps.cons (T := (tSl (tInt .u8))) (c := [.slice a21 x0.length p22]) (x := x0) ⟨_, _, _, rfl, (hs.g d0)⟩ (.nil : Reps (tSl (tInt .u8)) (Cl.G .b E.B I) h [] [])) ?_))
    intro b28 h hs
    obtain ⟨hk, bk⟩ := hs.call tk0 (.c (qO d0) .n)
    refine k_call H (fun _ m => hash_Of.calls m hk) ?_
    rintro t30 _ h H ⟨I, _, ⟨rfl, rfl, hl31⟩, hk⟩
    replace hs := bk hk ct0 rfl
    refine k_op (nA hs (List.map (Value.int .u8) (List.replicate 32 (0 : Int))) (.agg (List.map (Value.int .u8) (List.replicate 32 (0 : Int))).toArray) ?_)
    intro b32 h hs
    refine k_op (sAN (l2 := t30) hs (List.length_replicate (n := 32) (a := (0 : Int))) hl31 ?_)
    intro h hs
    obtain ⟨I, hs⟩ := hs.fA hl31
    refine st 5 [] ?_
    exact k_end ⟨t30, (some ⟨b32, 0, none⟩), 32, 32, I, H, ⟨by kernel_rfl, by kernel_rfl, trivial⟩, hs.pk (.w d0 imIB .n)⟩
 ·clear H
  rintro ρ h ⟨x35, a36, p37, n38, I, H, hf, hs⟩
  refine k_fits _ hf ?_ rfl
  subst e68
  try dsimp only at H
  obtain rfl := hs.nR d0
  obtain ⟨l41, m42, H⟩ := bind_some H
  refine st 2 [] (k_op (nM (e := 5) (kl := .i64) (kc := .i64) (bytes := 1) hs (tInt .u8) 0 (.int .u8 0) m42 (fun _ _ => rfl) ?_))
  intro b43 h hs
  refine st 6 [] (k_op (cO (e := 5) hs ((hs.sR d1).flat flat_int) ?_))
  intro h hs
  refine st 9 [] ?_
  obtain ⟨s51, m58, HR57⟩ := bind_some H
  refine k_loop 0 (fun k' ρ h => ∃ (x45 : List Int) (x50 : Int) (a46 : Option Addr) (p47 : Nat) (n48 : Nat) (I : Gh), mac_turned.l1.m K x1 l41 k' x45 x50 = some s51 ∧ Fits [(1, .int .u8 x1), (6, .slice a46 n48 p47), (20, .int .i64 (l41.length : Int)), (21, .int .i64 x50)] ρ ∧ St E [rO (tInt .u8) .i a46 p47 n48 x45] I h) (fun ρ h => ∃ (x52 : List Int) (a53 : Option Addr) (p54 : Nat) (n55 : Nat) (I : Gh), x52 = s51 ∧ Fits [(6, .slice a53 n55 p54)] ρ ∧ St E [rO (tInt .u8) .i a53 p54 n55 x52] I h) K ⟨(cpy l41 x35), 0, (some ⟨b43, 0, none⟩), l41.length, l41.length, I, m58, ⟨by kernel_rfl, by kernel_rfl, by kernel_rfl, by kernel_rfl, trivial⟩, hs.pk (.c d0 .n)⟩ ?_ rfl ?_
  ·clear HR57 m58 H
   rintro k' ρ h ⟨x45, x50, a46, p47, n48, I, H, hf, hs⟩
   cases k' with
   | zero => cases H
   | succ k =>
    rw [mac_turned.l1.m] at H
    refine k_fits _ hf ?_ rfl
    obtain rfl := hs.nO d0
    refine st 1 [] ?_
    obtain ⟨j61, e67, H⟩ := letJ_some H
    refine k_join (fun ρ h => ∃ (x60 : Bool) (I : Gh), j61 x60 = some s51 ∧ Fits [(1, .int .u8 x1), (6, .slice a46 x45.length p47), (20, .int .i64 (l41.length : Int)), (21, .int .i64 x50), (22, .bool x60)] ρ ∧ St E [rO (tInt .u8) .i a46 p47 x45.length x45] I h) ?_ ?_
    ·refine st 1 [] (k_ite H (fun c59 H => ?_) (fun c59 H => ?_))
     ·refine st 1 [] ?_
      exact k_end ⟨true, I, H, ⟨by kernel_rfl, by kernel_rfl, by kernel_rfl, by kernel_rfl, by kernel_rfl, trivial⟩, hs.pk (.c d0 .n)⟩
     ·refine st 1 [] ?_
      exact k_end ⟨false, I, H, ⟨by kernel_rfl, by kernel_rfl, by kernel_rfl, by kernel_rfl, by kernel_rfl, trivial⟩, hs.pk (.c d0 .n)⟩
    ·clear H
     rintro ρ h ⟨x60, I, H, hf, hs⟩
     refine k_fits _ hf ?_ rfl
     subst e67
     try dsimp only at H
     cases x60
     ·rw [cond_false] at H
      refine st 2 [false] ?_
      refine k_out rfl ?_
      obtain rfl := Option.some.inj H
      exact xE ⟨x45, a46, p47, x45.length, I, rfl, ⟨by kernel_rfl, trivial⟩, hs.pk (.c d0 .n)⟩
     ·rw [cond_true] at H
      obtain ⟨c62, H⟩ := guard_pos H
      obtain ⟨c63, H⟩ := guard_pos H
      refine st 13 [true] (k_val (elemPtr a46 (x50.toNat * 1)) (pI (e := 5) (ik := .i64) (hs.sO d0) c62 c63) ?_)
      refine k_op (lC ((hs.sO d0).cell1 c62 c63) ?_)
      refine st 2 [] (k_val (elemPtr a46 (x50.toNat * 1)) (pI (e := 5) (ik := .i64) (hs.sO d0) c62 c63) ?_)
      obtain ⟨y65, g64, q66⟩ := (hs.sO d0).toSl.seg c62 c63
      obtain rfl := rep_int q66
      refine k_op (sE hs 0 [.int .u8 (bXor .u8 (at_ x45 x50) x1)] (bXor .u8 (at_ x45 x50) x1) c62 c63 g64 (ones_of rfl) rfl ?_)
      intro h hs
      refine st 6 [] ?_
      exact k_endL ⟨k, Nat.lt_succ_self _, (x45.set x50.toNat (bXor .u8 (at_ x45 x50) x1)), (w64 (x50 + 1)), a46, p47, x45.length, I, H, ⟨by kernel_rfl, by kernel_rfl, by kernel_rfl, by kernel_rfl, trivial⟩, hs.pk (.c d0 .n)⟩
  ·rintro ρ h ⟨x52, a53, p54, n55, I, rfl, hf, hs⟩
   have H := HR57
   try dsimp only at H
   refine k_fits _ hf ?_ rfl
   obtain rfl := hs.nO d0
   refine st 5 [] ?_
   refine k_retQ ?_
   obtain rfl := Option.some.inj H
   exact ⟨_, by kernel_rfl, I, _, ⟨a53, p54, x52.length, rfl, rfl⟩, hs.pk (.c d0 .n)⟩

/-! shutter/mac.Code -/
def mac_Code.m (K : Nat) (x0 : (List Int)) (x1 : (List (List Int))) : Option (List Int) :=
  ((slices_Clone_byte.m x1).bind fun t30 => ((mac_turned.m K x0 54).bind fun t35 => ((slices_Insert_byte.m t30 0 [t35]).bind fun t42 => ((hash_Of.m K t42).bind fun t47 => ((mac_turned.m K x0 92).bind fun t51 => ((hash_Of.m K [t51, t47]).bind fun t58 => (some t58)))))))

theorem mac_Code.calls {B I : Gh} {h : Heap} {K : Nat} {x0 : (List Int)} {x1 : (List (List Int))} {a21 : Option Addr} {p22 : Nat} {n23 : Nat} {a25 : Option Addr} {p26 : Nat} {n27 : Nat} {r : (List Int)} (H : mac_Code.m K x0 x1 = some r)  :
    Fc Try.prog 10 #[.slice a21 n23 p22, .slice a25 n27 p26] [rR (tInt .u8) .b a21 p22 n23 x0, rR (tSl (tInt .u8)) .i a25 p26 n27 x1] B I h (fun v L => v = .agg (List.map (Value.int .u8) r).toArray ∧ L = [] ∧ List.length r = 32) := by
 refine fc_of fun E hs => ?_
 unfold mac_Code.m at H
 obtain rfl := hs.nR d0
 obtain rfl := hs.nR d1
 refine fn_of2 (args := [.slice a21 x0.length p22, .slice a25 x1.length p26]) (rs := [.cell 4 27]) (N := 18) Try.func10 rfl rfl rfl rfl ?_
 refine st 2 [] (k_op (nA hs (List.map (Value.int .u8) (List.replicate 32 (0 : Int))) (.agg (List.map (Value.int .u8) (List.replicate 32 (0 : Int))).toArray) ?_))
 intro b29 h hs
 obtain ⟨hk, bk⟩ := hs.call tk0 (.c (qK d2) .n)
 refine st 4 [] (k_call H (fun _ m => slices_Clone_byte.calls m hk) ?_)
 rintro t30 _ h H ⟨I, _, ⟨a31, p32, n33, rfl, rfl⟩, hk⟩
 replace hs := bk hk ct1 rfl
 obtain rfl := hs.nO d0
 obtain ⟨hk, bk⟩ := hs.call tk0 (.c (qB d2) .n)
 refine st 1 [] (k_call H (fun _ m => mac_turned.calls m hk) ?_)
 rintro t35 _ h H ⟨I, _, ⟨a36, p37, n38, rfl, rfl⟩, hk⟩
 replace hs := bk hk ct1 rfl
 obtain rfl := hs.nO d0
 obtain ⟨I, hs⟩ := hs.fO
 refine k_op (nS (e := 22) hs .i (tSl (tInt .u8)) ([t35] : List (List Int)) [.slice a36 t35.length p37] 1 (.slice none 0 0) (Reps.cons (T := (tSl (tInt .u8))) (c := [.slice a36 t35.length p37]) (x := t35) ⟨_, _, _, rfl, (hs.g d0)⟩ (.nil : Reps (tSl (tInt .u8)) (Cl.G .i E.B I) h [] [])) ?_)
 intro b40 h hs
 obtain ⟨hk, bk⟩ := (hs.f d2).call tk2 .n
 refine k_call H (fun _ m => slices_Insert_byte.calls m hk) ?_
 rintro t42 _ h H ⟨I, _, ⟨a43, p44, n45, rfl, rfl⟩, hk⟩
 replace hs := bk hk ct1 rfl
 obtain rfl := hs.nO d0
 obtain ⟨hk, bk⟩ := hs.call tk0 (.c (qO d0) .n)
 refine k_call H (fun _ m => hash_Of.calls m hk) ?_
 rintro t47 _ h H ⟨I, _, ⟨rfl, rfl, hl48⟩, hk⟩
 replace hs := bk hk ct0 rfl
 refine k_op (nA hs (List.map (Value.int .u8) (List.replicate 32 (0 : Int))) (.agg (List.map (Value.int .u8) (List.replicate 32 (0 : Int))).toArray) ?_)
 intro b49 h hs
 refine k_op (sAN (l2 := t47) hs (List.length_replicate (n := 32) (a := (0 : Int))) hl48 ?_)
 intro h hs
 refine st 2 [] ?_
 obtain ⟨I, hs⟩ := hs.fA hl48
 obtain ⟨hs0, bk0⟩ := hs.call tk0 (.c (qK d0) (.c (qB d4) .n))
 have hs := hs0
 refine k_regD hs0 5 ?_
 refine aRun [0, 2] 4 hs.keep ?_
 obtain ⟨hk, bk⟩ := hs.call tk0 (.c (qB d1) .n)
 refine aO1 1 rfl (o_call H (fun _ m => mac_turned.calls m hk) ?_)
 rintro t51 _ h H ⟨I, _, ⟨a52, p53, n54, rfl, rfl⟩, hk⟩
 replace hs := bk hk ct1 rfl
 obtain rfl := hs.nO d0
 refine ⟨hs.keep, ?_⟩
 obtain ⟨I, hs⟩ := hs.fO
 refine aO1 3 rfl (nS (e := 22) hs .i (tSl (tInt .u8)) ([t51, t47] : List (List Int)) [.slice a52 t51.length p53, .slice (some ⟨b49, 0, none⟩) 32 32] 1 (.slice none 0 0) (Reps.cons (T := (tSl (tInt .u8))) (c := [.slice a52 t51.length p53]) (x := t51) ⟨_, _, _, rfl, (hs.g d0)⟩ (Reps.cons (T := (tSl (tInt .u8))) (c := [.slice (some ⟨b49, 0, none⟩) 32 32]) (x := t47) ⟨_, _, _, rfl, (hs.g d1)⟩ (.nil : Reps (tSl (tInt .u8)) (Cl.G .i E.B I) h [] []))) ?_)
 intro b56 h hs
 refine ⟨hs.keep, ?_⟩
 obtain ⟨hk, bk⟩ := hs.call tk0 (.c (qO d0) .n)
 refine aO1 4 rfl (o_call H (fun _ m => hash_Of.calls m hk) ?_)
 rintro t58 _ h H ⟨I, _, ⟨rfl, rfl, hl59⟩, hk⟩
 replace hs := bk hk ct0 rfl
 refine ⟨hs.keep, ?_⟩
 replace hs := hs.pk (.c d0 (.c d0 .n))
 replace hs := bk0 hs ct2 rfl
 refine aOL 5 rfl (sAN (l2 := t58) (hs.f d5) (List.length_replicate (n := 32) (a := (0 : Int))) hl59 ?_)
 intro h hs
 refine aEnd ?_
 refine k_retQ ?_
 obtain rfl := Option.some.inj H
 exact ⟨[.agg (List.map (Value.int .u8) t58).toArray], (.cons (.agg (by kernel_rfl) (by kernel_rfl) (by kernel_rfl) ((hs.bl d0).arrSeg hl59)) .nil), I, _, ⟨rfl, rfl, hl59⟩, hs.pk .n⟩

/-! shutter/mac.Tag -/
def mac_Tag.m (K : Nat) (x0 : (List Int)) (x1 : (List (List Int))) : Option (List Int) :=
  ((mac_Code.m K x0 x1).bind fun t30 => (some (sub t30 0 16)))

theorem mac_Tag.calls {B I : Gh} {h : Heap} {K : Nat} {x0 : (List Int)} {x1 : (List (List Int))} {a21 : Option Addr} {p22 : Nat} {n23 : Nat} {a25 : Option Addr} {p26 : Nat} {n27 : Nat} {r : (List Int)} (H : mac_Tag.m K x0 x1 = some r)  :
    Fc Try.prog 9 #[.slice a21 n23 p22, .slice a25 n27 p26] [rR (tInt .u8) .b a21 p22 n23 x0, rR (tSl (tInt .u8)) .i a25 p26 n27 x1] B I h (fun v L => v = .agg (List.map (Value.int .u8) r).toArray ∧ L = [] ∧ List.length r = 16) := by
 refine fc_of fun E hs => ?_
 unfold mac_Tag.m at H
 obtain rfl := hs.nR d0
 obtain rfl := hs.nR d1
 refine fn_of2 (args := [.slice a21 x0.length p22, .slice a25 x1.length p26]) (rs := [.cell 4 25]) (N := 12) Try.func9 rfl rfl rfl rfl ?_
 refine st 2 [] (k_op (nA hs (List.map (Value.int .u8) (List.replicate 16 (0 : Int))) (.agg (List.map (Value.int .u8) (List.replicate 16 (0 : Int))).toArray) ?_))
 intro b29 h hs
 obtain ⟨hk, bk⟩ := hs.call tk0 (.c (qB d1) (.c (qK d2) .n))
 refine st 5 [] (k_call H (fun _ m => mac_Code.calls m hk) ?_)
 rintro t30 _ h H ⟨I, _, ⟨rfl, rfl, hl31⟩, hk⟩
 replace hs := bk hk ct0 rfl
 refine k_op (nA hs (List.map (Value.int .u8) (List.replicate 32 (0 : Int))) (.agg (List.map (Value.int .u8) (List.replicate 32 (0 : Int))).toArray) ?_)
 intro b32 h hs
 refine k_op (sAN (l2 := t30) hs (List.length_replicate (n := 32) (a := (0 : Int))) hl31 ?_)
 intro h hs
 obtain ⟨I, hs⟩ := hs.fA hl31
 replace hs := hs.part d0 (lo := 0) (hi := 16) (Int.le_refl 0) (by decide) (by rw [hl31]; decide)
 refine st 3 [] (k_val (.slice (slA (some ⟨b32, 0, none⟩) 32 (Int.toNat (0 : Int)) 1) ((sub t30 0 16).length) (32 - Int.toNat (0 : Int))) (pSA (lo := 0) (hi := 16) 16 (by rw [hl31]; decide)) ?_)
 refine k_val (elemPtr (slA (some ⟨b32, 0, none⟩) 32 (Int.toNat (0 : Int)) 1) 0) (pAP (m := 16) (et := 5) (hs.sR d0) (sub_len (lo := 0) (hi := 16) 16 (by rw [hl31]; decide)) (by decide)) ?_
 refine k_op (lG ((hs.sR d0).segInt (sub_len (lo := 0) (hi := 16) 16 (by rw [hl31]; decide)) (by decide)) ?_)
 refine k_op (sAN (l2 := (sub t30 0 16)) (hs.f d2) (List.length_replicate (n := 16) (a := (0 : Int))) (sub_len (lo := 0) (hi := 16) 16 (by rw [hl31]; decide)) ?_)
 intro h hs
 refine st 1 [] ?_
 refine k_retQ ?_
 obtain rfl := Option.some.inj H
 exact ⟨[.agg (List.map (Value.int .u8) (sub t30 0 16)).toArray], (.cons (.agg (by kernel_rfl) (by kernel_rfl) (by kernel_rfl) ((hs.bl d0).arrSeg (sub_len (lo := 0) (hi := 16) 16 (by rw [hl31]; decide)))) .nil), I, _, ⟨rfl, rfl, (sub_len (lo := 0) (hi := 16) 16 (by rw [hl31]; decide))⟩, hs.pk .n⟩

/-! shutter/shutterref01.Same -/
def shutterref01_Same.l1.m (K : Nat) (x0 : (List Int)) (x1 : (List Int)) : Nat → Int → Option (Bool ⊕ (Unit))
  | 0, _ => none
  | k + 1, x32 => (if x32 < (x0.length : Int) then (if 0 ≤ x32 then (if x32 < (x1.length : Int) then (if (at_ x0 x32) = (at_ x1 x32) then (shutterref01_Same.l1.m K x0 x1 k (w64 (x32 + 1))) else (some (Sum.inl false))) else none) else none) else (some (Sum.inr ())))
def shutterref01_Same.m (K : Nat) (x0 : (List Int)) (x1 : (List Int)) : Option Bool :=
  (if (x0.length : Int) = (x1.length : Int) then ((shutterref01_Same.l1.m K x0 x1 K 0).bind fun s33 => match s33 with | .inl q => (some q) | .inr _ => (some true)) else (some false))

theorem shutterref01_Same.calls {G : Gh} {K : Nat} {x0 : (List Int)} {x1 : (List Int)} {a21 : Option Addr} {p22 : Nat} {n23 : Nat} {a25 : Option Addr} {p26 : Nat} {n27 : Nat} {h : Heap} {r : Bool} (H : shutterref01_Same.m K x0 x1 = some r)  (s29 : Sn (tInt .u8) G h a21 p22 n23 x0) (s30 : Sn (tInt .u8) G h a25 p26 n27 x1) :
    Ret Try.prog 12 #[.slice a21 n23 p22, .slice a25 n27 p26] h (fun v h' => .bool r = v ∧ h' = h) := by
 unfold shutterref01_Same.m at H
 obtain rfl := s29.len.symm
 obtain rfl := s30.len.symm
 refine fn_of (args := [.slice a21 x0.length p22, .slice a25 x1.length p26]) (rs := [.tmp 4]) (N := 26) Try.func12 rfl rfl rfl rfl ?_
 refine st 11 [] (k_iteN H (fun c31 H => ?_) (fun c31 H => ?_))
 ·refine st 9 [false] ?_
  obtain ⟨s33, m35, HR34⟩ := bind_some H
  refine k_loop 0 (fun k' ρ h1 => ∃ (x32 : Int), shutterref01_Same.l1.m K x0 x1 k' x32 = some s33 ∧ Fits [(0, .slice a21 x0.length p22), (1, .slice a25 x1.length p26), (5, .int .i64 x32)] ρ ∧ h = h1) (fun ρ h1 => Sum.inr () = s33 ∧ Fits [] ρ ∧ h = h1) K ⟨0, m35, ⟨by kernel_rfl, by kernel_rfl, by kernel_rfl, trivial⟩, rfl⟩ ?_ rfl ?_
  ·clear m35 H
   rintro k' ρ h1 ⟨x32, H, hf, rfl⟩
   cases k' with
   | zero => cases H
   | succ k =>
    rw [shutterref01_Same.l1.m] at H
    refine k_fits _ hf ?_ rfl
    refine st 6 [] (k_ite H (fun c36 H => ?_) (fun c36 H => ?_))
    ·refine st 6 [true] ?_
     refine k_regP 9 ?_
     obtain ⟨c37, H⟩ := guard_pos H
     refine aRun [0, 1] 7 Keep.refl ?_
     refine aP 2 (elemPtr a21 (x32.toNat * 1)) rfl (pI (e := 5) (ik := .i64) s29 c37 c36) Keep.refl ?_
     refine aL 3 rfl Keep.refl (s29.cell1 c37 c36) (fun _ _ x => x) ?_
     obtain ⟨c38, H⟩ := guard_pos H
     refine aRun [4, 5] 3 Keep.refl ?_
     refine aP 6 (elemPtr a25 (x32.toNat * 1)) rfl (pI (e := 5) (ik := .i64) s30 c37 c38) Keep.refl ?_
     refine aL 7 rfl Keep.refl (s30.cell1 c37 c38) (fun _ _ x => x) ?_
     by_cases c39 : (at_ x0 x32) = (at_ x1 x32)
     ·rw [if_pos c39] at H
      refine aP 8 (.bool false) rfl (pr_bool (by kernel_rfl) (neF c39)) Keep.refl ?_
      refine aEnd ?_
      refine st 8 [false] ?_
      exact k_endL ⟨k, Nat.lt_succ_self _, (w64 (x32 + 1)), H, ⟨by kernel_rfl, by kernel_rfl, by kernel_rfl, trivial⟩, rfl⟩
     ·rw [if_neg c39] at H
      refine aP 8 (.bool true) rfl (pr_bool (by kernel_rfl) (neT c39)) Keep.refl ?_
      refine aEnd ?_
      refine st 5 [true] ?_
      refine k_retQ (krL ?_)
      obtain rfl := Option.some.inj H
      obtain rfl := Option.some.inj HR34
      exact ⟨_, by kernel_rfl, rfl, rfl⟩
    ·refine st 2 [false] ?_
     refine k_out rfl ?_
     obtain rfl := Option.some.inj H
     exact xE ⟨rfl, trivial, rfl⟩
  ·rintro ρ h1 ⟨rfl, hf, rfl⟩
   have H := HR34
   try dsimp only at H
   refine k_fits _ hf ?_ rfl
   refine st 4 [] ?_
   refine k_retQ ?_
   obtain rfl := Option.some.inj H
   exact ⟨_, by kernel_rfl, rfl, rfl⟩
 ·refine st 6 [true] ?_
  refine k_retQ ?_
  obtain rfl := Option.some.inj H
  exact ⟨_, by kernel_rfl, rfl, rfl⟩

/-! shutter/mac.Equal -/
def mac_Equal.l1.m (K : Nat) (x0 : (List Int)) (x1 : (List Int)) : Nat → Int → Int → Option (Int)
  | 0, _, _ => none
  | k + 1, x32, x33 => (letJ (α := Bool → Option (Int)) (fun (x39 : Bool) => (bif x39 then (if 0 ≤ x33 then (if x33 < (x0.length : Int) then (if x33 < (x1.length : Int) then (mac_Equal.l1.m K x0 x1 k (bOr .u8 x32 (bXor .u8 (at_ x0 x33) (at_ x1 x33))) (w64 (x33 + 1))) else none) else none) else none) else (some (x32)))) fun (j40 : Bool → Option (Int)) => (if x33 < (x0.length : Int) then (j40 true) else (j40 false)))
def mac_Equal.m (K : Nat) (x0 : (List Int)) (x1 : (List Int)) : Option Bool :=
  (if (x0.length : Int) = (x1.length : Int) then ((mac_Equal.l1.m K x0 x1 K 0 0).bind fun x35 => (some (x35 == 0))) else (some false))

theorem mac_Equal.calls {G : Gh} {K : Nat} {x0 : (List Int)} {x1 : (List Int)} {a21 : Option Addr} {p22 : Nat} {n23 : Nat} {a25 : Option Addr} {p26 : Nat} {n27 : Nat} {h : Heap} {r : Bool} (H : mac_Equal.m K x0 x1 = some r)  (s29 : Sn (tInt .u8) G h a21 p22 n23 x0) (s30 : Sn (tInt .u8) G h a25 p26 n27 x1) :
    Ret Try.prog 14 #[.slice a21 n23 p22, .slice a25 n27 p26] h (fun v h' => .bool r = v ∧ h' = h) := by
 unfold mac_Equal.m at H
 obtain rfl := s29.len.symm
 obtain rfl := s30.len.symm
 refine fn_of (args := [.slice a21 x0.length p22, .slice a25 x1.length p26]) (rs := [.tmp 4]) (N := 31) Try.func14 rfl rfl rfl rfl ?_
 refine st 11 [] (k_iteN H (fun c31 H => ?_) (fun c31 H => ?_))
 ·refine st 15 [false] ?_
  obtain ⟨s34, m37, HR36⟩ := bind_some H
  refine k_loop 0 (fun k' ρ h1 => ∃ (x32 : Int) (x33 : Int), mac_Equal.l1.m K x0 x1 k' x32 x33 = some s34 ∧ Fits [(1, .slice a25 x1.length p26), (5, .int .u8 x32), (13, .slice a21 x0.length p22), (14, .int .i64 (x0.length : Int)), (15, .int .i64 x33)] ρ ∧ h = h1) (fun ρ h1 => ∃ (x35 : Int), x35 = s34 ∧ Fits [(5, .int .u8 x35)] ρ ∧ h = h1) K ⟨0, 0, m37, ⟨by kernel_rfl, by kernel_rfl, by kernel_rfl, by kernel_rfl, by kernel_rfl, trivial⟩, rfl⟩ ?_ rfl ?_
  ·clear HR36 m37 H
   rintro k' ρ h1 ⟨x32, x33, H, hf, rfl⟩
   cases k' with
   | zero => cases H
   | succ k =>
    rw [mac_Equal.l1.m] at H
    refine k_fits _ hf ?_ rfl
    refine st 1 [] ?_
    obtain ⟨j40, e44, H⟩ := letJ_some H
    refine k_join (fun ρ h1 => ∃ (x39 : Bool), j40 x39 = some s34 ∧ Fits [(1, .slice a25 x1.length p26), (5, .int .u8 x32), (13, .slice a21 x0.length p22), (14, .int .i64 (x0.length : Int)), (15, .int .i64 x33), (16, .bool x39)] ρ ∧ h = h1) ?_ ?_
    ·refine st 1 [] (k_ite H (fun c38 H => ?_) (fun c38 H => ?_))
     ·refine st 1 [] ?_
      exact k_end ⟨true, H, ⟨by kernel_rfl, by kernel_rfl, by kernel_rfl, by kernel_rfl, by kernel_rfl, by kernel_rfl, trivial⟩, rfl⟩
     ·refine st 1 [] ?_
      exact k_end ⟨false, H, ⟨by kernel_rfl, by kernel_rfl, by kernel_rfl, by kernel_rfl, by kernel_rfl, by kernel_rfl, trivial⟩, rfl⟩
    ·clear H
     rintro ρ h1 ⟨x39, H, hf, rfl⟩
     refine k_fits _ hf ?_ rfl
     subst e44
     try dsimp only at H
     cases x39
     ·rw [cond_false] at H
      refine st 2 [false] ?_
      refine k_out rfl ?_
      obtain rfl := Option.some.inj H
      exact xE ⟨x32, rfl, ⟨by kernel_rfl, trivial⟩, rfl⟩
     ·rw [cond_true] at H
      obtain ⟨c41, H⟩ := guard_pos H
      obtain ⟨c42, H⟩ := guard_pos H
      refine st 8 [true] (k_val (elemPtr a21 (x33.toNat * 1)) (pI (e := 5) (ik := .i64) s29 c41 c42) ?_)
      refine k_op (lC (s29.cell1 c41 c42) ?_)
      obtain ⟨c43, H⟩ := guard_pos H
      refine st 8 [] (k_val (elemPtr a25 (x33.toNat * 1)) (pI (e := 5) (ik := .i64) s30 c41 c43) ?_)
      refine k_op (lC (s30.cell1 c41 c43) ?_)
      refine st 9 [] ?_
      exact k_endL ⟨k, Nat.lt_succ_self _, (bOr .u8 x32 (bXor .u8 (at_ x0 x33) (at_ x1 x33))), (w64 (x33 + 1)), H, ⟨by kernel_rfl, by kernel_rfl, by kernel_rfl, by kernel_rfl, by kernel_rfl, trivial⟩, rfl⟩
  ·rintro ρ h1 ⟨x35, rfl, hf, rfl⟩
   have H := HR36
   try dsimp only at H
   refine k_fits _ hf ?_ rfl
   refine st 6 [] ?_
   refine k_retQ ?_
   obtain rfl := Option.some.inj H
   exact ⟨_, by kernel_rfl, rfl, rfl⟩
 ·refine st 6 [true] ?_
  refine k_retQ ?_
  obtain rfl := Option.some.inj H
  exact ⟨_, by kernel_rfl, rfl, rfl⟩

/-! shutter/shutterlaw02.awake -/
def shutterlaw02_awake.l1.m (K : Nat) : Nat → (List Int) → Int → Option ((List Int))
  | 0, _, _ => none
  | k + 1, x21, x26 => (if x26 < 20 then ((app x21 [11]).bind fun l38 => (shutterlaw02_awake.l1.m K k l38 (w64 (x26 + 1)))) else (some (x21)))
def shutterlaw02_awake.m (K : Nat)  : Option Bool :=
  ((shutterlaw02_awake.l1.m K K [] 0).bind fun x28 => ((mac_Code.m K x28 ([[72, 105, 32], [84, 104, 101, 114, 101]])).bind fun t49 => ((mac_Tag.m K x28 ([[72, 105, 32, 84, 104, 101, 114, 101]])).bind fun t56 => (if (at_ t49 0) = 176 then (if (at_ t49 1) = 52 then (if (at_ t49 31) = 247 then ((shutterref01_Same.m K t56 (sub t49 0 16)).bind fun t64 => bif t64 then ((mac_Equal.m K x28 x28).bind fun t65 => bif t65 then (if 1 ≤ (x28.length : Int) then ((mac_Equal.m K x28 (sub x28 1 (x28.length : Int))).bind fun t67 => (some (!t67))) else none) else (some false)) else (some false)) else (some false)) else (some false)) else (some false)))))

theorem shutterlaw02_awake.calls {B I : Gh} {h : Heap} {K : Nat} {r : Bool} (H : shutterlaw02_awake.m K = some r)  :
    Fc Try.prog 8 #[] [] B I h (fun v L => v = .bool r ∧ L = []) := by
 refine fc_of fun E hs => ?_
 unfold shutterlaw02_awake.m at H
 refine fn_of (args := []) (rs := [.tmp 0]) (N := 54) Try.func8 rfl rfl rfl rfl ?_
 refine st 14 [] ?_
 obtain ⟨s27, m34, HR33⟩ := bind_some H
 refine k_loop 0 (fun k' ρ h => ∃ (x21 : List Int) (x26 : Int) (a22 : Option Addr) (p23 : Nat) (n24 : Nat) (I : Gh), shutterlaw02_awake.l1.m K k' x21 x26 = some s27 ∧ Fits [(1, .slice a22 n24 p23), (2, .int .i64 x26)] ρ ∧ St E [rO (tInt .u8) .i a22 p23 n24 x21] I h) (fun ρ h => ∃ (x28 : List Int) (a29 : Option Addr) (p30 : Nat) (n31 : Nat) (I : Gh), x28 = s27 ∧ Fits [(1, .slice a29 n31 p30)] ρ ∧ St E [rO (tInt .u8) .i a29 p30 n31 x28] I h) K ⟨[], 0, none, 0, 0, I, m34, ⟨by kernel_rfl, by kernel_rfl, trivial⟩, hs.pk (.f imON .n)⟩ ?_ rfl ?_
 ·clear HR33 m34 H
  rintro k' ρ h ⟨x21, x26, a22, p23, n24, I, H, hf, hs⟩
  cases k' with
  | zero => cases H
  | succ k =>
   rw [shutterlaw02_awake.l1.m] at H
   refine k_fits _ hf ?_ rfl
   obtain rfl := hs.nO d0
   refine st 4 [] (k_ite H (fun c35 H => ?_) (fun c35 H => ?_))
   ·refine st 7 [true] (k_op (nS (e := 5) hs .i (tInt .u8) ([11] : List Int) [.int .u8 11] 1 (.int .u8 0) (Reps.int (I := (Cl.G .i E.B I)) (k := .u8) (l := [11])) ?_))
    intro b36 h hs
    replace hs := (hs.f d1)
    obtain ⟨l38, m39, H⟩ := bind_some H
    refine k_op (aO (e := 5) (bytes := 1) hs (hs.sO d1) m39 ?_)
    intro a40 p41 h hs
    refine st 8 [] ?_
    exact k_endL ⟨k, Nat.lt_succ_self _, l38, (w64 (x26 + 1)), a40, p41, l38.length, I, H, ⟨by kernel_rfl, by kernel_rfl, trivial⟩, hs.pk (.c d0 .n)⟩
   ·refine st 2 [false] ?_
    refine k_out rfl ?_
    obtain rfl := Option.some.inj H
    exact xE ⟨x21, a22, p23, x21.length, I, rfl, ⟨by kernel_rfl, trivial⟩, hs.pk (.c d0 .n)⟩
 ·rintro ρ h ⟨x28, a29, p30, n31, I, rfl, hf, hs⟩
  have H := HR33
  try dsimp only at H
  refine k_fits _ hf ?_ rfl
  obtain rfl := hs.nO d0
  refine st 3 [] (k_op (nS (e := 5) hs .i (tInt .u8) ([72, 105, 32] : List Int) [.int .u8 72, .int .u8 105, .int .u8 32] 1 (.int .u8 0) (Reps.int (I := (Cl.G .i E.B I)) (k := .u8) (l := [72, 105, 32])) ?_))
  intro b43 h hs
  refine k_op (cvO (e := 5) hs ?_)
  intro I h hs
  refine k_op (nS (e := 5) hs .i (tInt .u8) ([84, 104, 101, 114, 101] : List Int) [.int .u8 84, .int .u8 104, .int .u8 101, .int .u8 114, .int .u8 101] 1 (.int .u8 0) (Reps.int (I := (Cl.G .i E.B I)) (k := .u8) (l := [84, 104, 101, 114, 101])) ?_)
  intro b45 h hs
  refine k_op (cvO (e := 5) hs ?_)
  intro I h hs
  refine k_op (nS (e := 22) hs .i (tSl (tInt .u8)) ([[72, 105, 32], [84, 104, 101, 114, 101]] : List (List Int)) [.slice (some ⟨b43, 0, none⟩) 3 3, .slice (some ⟨b45, 0, none⟩) 5 5] 1 (.slice none 0 0) (Reps.cons (T := (tSl (tInt .u8))) (c := [.slice (some ⟨b43, 0, none⟩) 3 3]) (x := [72, 105, 32]) ⟨_, _, _, rfl, (hs.g d1)⟩ (Reps.cons (T := (tSl (tInt .u8))) (c := [.slice (some ⟨b45, 0, none⟩) 5 5]) (x := [84, 104, 101, 114, 101]) ⟨_, _, _, rfl, (hs.g d0)⟩ (.nil : Reps (tSl (tInt .u8)) (Cl.G .i E.B I) h [] []))) ?_)
  intro b47 h hs
  obtain ⟨I, hs⟩ := hs.fO
  obtain ⟨hk, bk⟩ := hs.call tk0 (.c (qO d3) (.c (qK d0) .n))
  refine k_call H (fun _ m => mac_Code.calls m hk) ?_
  rintro t49 _ h H ⟨I, _, ⟨rfl, rfl, hl50⟩, hk⟩
  replace hs := bk hk ct0 rfl
  refine k_op (nA hs (List.map (Value.int .u8) (List.replicate 32 (0 : Int))) (.agg (List.map (Value.int .u8) (List.replicate 32 (0 : Int))).toArray) ?_)
  intro b51 h hs
  refine k_op (sAN (l2 := t49) hs (List.length_replicate (n := 32) (a := (0 : Int))) hl50 ?_)
  intro h hs
  refine st 4 [] (k_op (nS (e := 5) hs .i (tInt .u8) ([72, 105, 32, 84, 104, 101, 114, 101] : List Int) [.int .u8 72, .int .u8 105, .int .u8 32, .int .u8 84, .int .u8 104, .int .u8 101, .int .u8 114, .int .u8 101] 1 (.int .u8 0) (Reps.int (I := (Cl.G .i E.B I)) (k := .u8) (l := [72, 105, 32, 84, 104, 101, 114, 101])) ?_))
  intro b52 h hs
  refine k_op (cvO (e := 5) hs ?_)
  intro I h hs
  refine k_op (nS (e := 22) hs .i (tSl (tInt .u8)) ([[72, 105, 32, 84, 104, 101, 114, 101]] : List (List Int)) [.slice (some ⟨b52, 0, none⟩) 8 8] 1 (.slice none 0 0) (Reps.cons (T := (tSl (tInt .u8))) (c := [.slice (some ⟨b52, 0, none⟩) 8 8]) (x := [72, 105, 32, 84, 104, 101, 114, 101]) ⟨_, _, _, rfl, (hs.g d0)⟩ (.nil : Reps (tSl (tInt .u8)) (Cl.G .i E.B I) h [] [])) ?_)
  intro b54 h hs
  obtain ⟨I, hs⟩ := hs.fO
  obtain ⟨hk, bk⟩ := hs.call tk0 (.c (qO d6) (.c (qK d0) .n))
  refine k_call H (fun _ m => mac_Tag.calls m hk) ?_
  rintro t56 _ h H ⟨I, _, ⟨rfl, rfl, hl57⟩, hk⟩
  replace hs := bk hk ct0 rfl
  refine k_op (nA hs (List.map (Value.int .u8) (List.replicate 16 (0 : Int))) (.agg (List.map (Value.int .u8) (List.replicate 16 (0 : Int))).toArray) ?_)
  intro b58 h hs
  refine k_op (sAN (l2 := t56) hs (List.length_replicate (n := 16) (a := (0 : Int))) hl57 ?_)
  intro h hs
  refine st 2 [] ?_
  obtain ⟨I, hs⟩ := hs.fA hl57
  obtain ⟨I, hs⟩ := (hs.f d3).fA hl50
  obtain ⟨hs0, bk0⟩ := hs.call tk0 (.c (qK d1) (.c (qK d0) (.c (qO d7) .n)))
  have hs := hs0
  refine k_regD hs0 31 ?_
  refine aP 0 (elemPtr (some ⟨b51, 0, none⟩) ((0 : Int).toNat * 1)) rfl (pr_indexArr (e := 5) (kk := .i64) (n := 32) (by kernel_rfl) (by kernel_rfl) (by kernel_rfl) (by kernel_rfl) (show (0 : Int) ≤ (0 : Int) by decide) (by decide)) hs.keep ?_
  refine aL 1 rfl hs.keep ((hs0.sR d1).cell1 (show (0 : Int) ≤ (0 : Int) by decide) (show (0 : Int) < ((List.length t49 : Nat) : Int) by rw [hl50]; decide)) (nmR hs0 d1 (show (0 : Int) ≤ (0 : Int) by decide) (show (0 : Int) < ((List.length t49 : Nat) : Int) by rw [hl50]; decide)) ?_
  by_cases c61 : (at_ t49 0) = 176
  ·rw [if_pos c61] at H
   refine aP 2 (.bool true) rfl (pr_bool (by kernel_rfl) (eqT c61)) hs.keep ?_
   refine aRun [3] 27 hs.keep ?_
   refine aP 4 (elemPtr (some ⟨b51, 0, none⟩) ((1 : Int).toNat * 1)) rfl (pr_indexArr (e := 5) (kk := .i64) (n := 32) (by kernel_rfl) (by kernel_rfl) (by kernel_rfl) (by kernel_rfl) (show (0 : Int) ≤ (1 : Int) by decide) (by decide)) hs.keep ?_
   refine aL 5 rfl hs.keep ((hs0.sR d1).cell1 (show (0 : Int) ≤ (1 : Int) by decide) (show (1 : Int) < ((List.length t49 : Nat) : Int) by rw [hl50]; decide)) (nmR hs0 d1 (show (0 : Int) ≤ (1 : Int) by decide) (show (1 : Int) < ((List.length t49 : Nat) : Int) by rw [hl50]; decide)) ?_
   by_cases c62 : (at_ t49 1) = 52
   ·rw [if_pos c62] at H
    refine aP 6 (.bool true) rfl (pr_bool (by kernel_rfl) (eqT c62)) hs.keep ?_
    refine aRun [7, 8] 22 hs.keep ?_
    refine aP 9 (elemPtr (some ⟨b51, 0, none⟩) ((31 : Int).toNat * 1)) rfl (pr_indexArr (e := 5) (kk := .i64) (n := 32) (by kernel_rfl) (by kernel_rfl) (by kernel_rfl) (by kernel_rfl) (show (0 : Int) ≤ (31 : Int) by decide) (by decide)) hs.keep ?_
    refine aL 10 rfl hs.keep ((hs0.sR d1).cell1 (show (0 : Int) ≤ (31 : Int) by decide) (show (31 : Int) < ((List.length t49 : Nat) : Int) by rw [hl50]; decide)) (nmR hs0 d1 (show (0 : Int) ≤ (31 : Int) by decide) (show (31 : Int) < ((List.length t49 : Nat) : Int) by rw [hl50]; decide)) ?_
    by_cases c63 : (at_ t49 31) = 247
    ·rw [if_pos c63] at H
     refine aP 11 (.bool true) rfl (pr_bool (by kernel_rfl) (eqT c63)) hs.keep ?_
     refine aRun [12, 13, 14] 16 hs.keep ?_
     refine aP 15 (.slice (slA (some ⟨b51, 0, none⟩) 32 (Int.toNat (0 : Int)) 1) ((sub t49 0 16).length) (32 - Int.toNat (0 : Int))) rfl (pSA (lo := 0) (hi := 16) 16 (by rw [hl50]; decide)) hs.keep ?_
     refine aO1 16 rfl (o_call H (fun _ m => shutterref01_Same.calls m (hs.sR d0) (Sn.part (hs.sR d1) (lo := 0) (hi := 16) (Int.le_refl 0) (by decide) (by rw [hl50]; decide))) ?_)
     rintro t64 _ _ H ⟨rfl, rfl⟩
     refine ⟨hs.keep, ?_⟩
     cases t64
     ·rw [cond_false] at H
      refine aRun [17, 18, 19, 20, 21, 22, 23, 24, 25, 26, 27, 28, 29, 30] 0 hs.keep ?_
      replace hs := hs.pk .n
      replace hs := bk0 hs ct0 rfl
      refine aEnd ?_
      refine k_retQ ?_
      obtain rfl := Option.some.inj H
      exact ⟨_, by kernel_rfl, I, _, ⟨rfl, rfl⟩, hs.pk .n⟩
     ·rw [cond_true] at H
      refine aRun [17, 18, 19, 20] 10 hs.keep ?_
      refine aO1 21 rfl (o_call H (fun _ m => mac_Equal.calls m (hs.sR d2) (hs.sR d2)) ?_)
      rintro t65 _ _ H ⟨rfl, rfl⟩
      refine ⟨hs.keep, ?_⟩
      cases t65
      ·rw [cond_false] at H
       refine aRun [22, 23, 24, 25, 26, 27, 28, 29, 30] 0 hs.keep ?_
       replace hs := hs.pk .n
       replace hs := bk0 hs ct0 rfl
       refine aEnd ?_
       refine k_retQ ?_
       obtain rfl := Option.some.inj H
       exact ⟨_, by kernel_rfl, I, _, ⟨rfl, rfl⟩, hs.pk .n⟩
      ·rw [cond_true] at H
       obtain ⟨c66, H⟩ := guard_pos H
       refine aRun [22, 23, 24, 25] 5 hs.keep ?_
       refine aP 26 (.slice (slA a29 p30 (Int.toNat (1 : Int)) 1) ((sub x28 1 (x28.length : Int)).length) (p30 - Int.toNat (1 : Int))) rfl (pSl (e := 5) (k1 := .i64) (hs.sR d2) (by decide) c66 (Int.le_refl _)) hs.keep ?_
       refine aO1 27 rfl (o_call H (fun _ m => mac_Equal.calls m (hs.sR d2) (Sn.part (hs.sR d2) (lo := 1) (hi := (x28.length : Int)) (by decide) c66 (Int.le_refl _))) ?_)
       rintro t67 _ _ H ⟨rfl, rfl⟩
       refine ⟨hs.keep, ?_⟩
       refine aRun [28, 29, 30] 0 hs.keep ?_
       replace hs := hs.pk .n
       replace hs := bk0 hs ct0 rfl
       refine aEnd ?_
       refine k_retQ ?_
       obtain rfl := Option.some.inj H
       exact ⟨_, by kernel_rfl, I, _, ⟨rfl, rfl⟩, hs.pk .n⟩
    ·rw [if_neg c63] at H
     refine aP 11 (.bool false) rfl (pr_bool (by kernel_rfl) (eqF c63)) hs.keep ?_
     refine aRun [12, 13, 14, 15, 16, 17, 18, 19, 20, 21, 22, 23, 24, 25, 26, 27, 28, 29, 30] 0 hs.keep ?_
     replace hs := hs.pk .n
     replace hs := bk0 hs ct0 rfl
     refine aEnd ?_
     refine k_retQ ?_
     obtain rfl := Option.some.inj H
     exact ⟨_, by kernel_rfl, I, _, ⟨rfl, rfl⟩, hs.pk .n⟩
   ·rw [if_neg c62] at H
    refine aP 6 (.bool false) rfl (pr_bool (by kernel_rfl) (eqF c62)) hs.keep ?_
    refine aRun [7, 8, 9, 10, 11, 12, 13, 14, 15, 16, 17, 18, 19, 20, 21, 22, 23, 24, 25, 26, 27, 28, 29, 30] 0 hs.keep ?_
    replace hs := hs.pk .n
    replace hs := bk0 hs ct0 rfl
    refine aEnd ?_
    refine k_retQ ?_
    obtain rfl := Option.some.inj H
    exact ⟨_, by kernel_rfl, I, _, ⟨rfl, rfl⟩, hs.pk .n⟩
  ·rw [if_neg c61] at H
   refine aP 2 (.bool false) rfl (pr_bool (by kernel_rfl) (eqF c61)) hs.keep ?_
   refine aRun [3, 4, 5, 6, 7, 8, 9, 10, 11, 12, 13, 14, 15, 16, 17, 18, 19, 20, 21, 22, 23, 24, 25, 26, 27, 28, 29, 30] 0 hs.keep ?_
   replace hs := hs.pk .n
   replace hs := bk0 hs ct0 rfl
   refine aEnd ?_
   refine k_retQ ?_
   obtain rfl := Option.some.inj H
   exact ⟨_, by kernel_rfl, I, _, ⟨rfl, rfl⟩, hs.pk .n⟩

/-! shutter/shutterref01.Word -/
def shutterref01_Word.l1.m (K : Nat) (x0 : ByteArray) (x1 : Int) : Nat → Int → Int → Option (Int)
  | 0, _, _ => none
  | k + 1, x21, x22 => (if x22 < (w64 ((w64 (8 * x1)) + 8)) then (if 0 ≤ x22 then (if x22 < (x0.size : Int) then (if (bt x0 x22) ≥ 97 then (shutterref01_Word.l1.m K x0 x1 k (w64 ((w64 (16 * x21)) + (w64 ((w64 ((bt x0 x22))) - 87)))) (w64 (x22 + 1))) else (shutterref01_Word.l1.m K x0 x1 k (w64 ((w64 (16 * x21)) + (w64 ((w64 ((bt x0 x22))) - 48)))) (w64 (x22 + 1)))) else none) else none) else (some (x21)))
def shutterref01_Word.m (K : Nat) (x0 : ByteArray) (x1 : Int) : Option Int :=
  ((shutterref01_Word.l1.m K x0 x1 K 0 (w64 (8 * x1))).bind fun x24 => (some x24))

theorem shutterref01_Word.calls {K : Nat} {x0 : ByteArray} {x1 : Int} {h : Heap} {r : Int} (H : shutterref01_Word.m K x0 x1 = some r)   :
    Ret Try.prog 20 #[.string x0, .int .i64 x1] h (fun v h' => .int .i64 r = v ∧ h' = h) := by
 unfold shutterref01_Word.m at H
 refine fn_of (args := [.string x0, .int .i64 x1]) (rs := [.tmp 4]) (N := 36) Try.func20 rfl rfl rfl rfl ?_
 refine st 16 [] ?_
 obtain ⟨s23, m26, HR25⟩ := bind_some H
 refine k_loop 0 (fun k' ρ h1 => ∃ (x21 : Int) (x22 : Int), shutterref01_Word.l1.m K x0 x1 k' x21 x22 = some s23 ∧ Fits [(0, .string x0), (1, .int .i64 x1), (5, .int .i64 x21), (6, .int .i64 x22)] ρ ∧ h = h1) (fun ρ h1 => ∃ (x24 : Int), x24 = s23 ∧ Fits [(5, .int .i64 x24)] ρ ∧ h = h1) K ⟨0, (w64 (8 * x1)), m26, ⟨by kernel_rfl, by kernel_rfl, by kernel_rfl, by kernel_rfl, trivial⟩, rfl⟩ ?_ rfl ?_
 ·clear HR25 m26 H
  rintro k' ρ h1 ⟨x21, x22, H, hf, rfl⟩
  cases k' with
  | zero => cases H
  | succ k =>
   rw [shutterref01_Word.l1.m] at H
   refine k_fits _ hf ?_ rfl
   refine st 7 [] (k_ite H (fun c27 H => ?_) (fun c27 H => ?_))
   ·obtain ⟨c28, H⟩ := guard_pos H
    obtain ⟨c29, H⟩ := guard_pos H
    refine st 9 [true] (k_val (.int .u8 (bt x0 x22)) (pr_indexStr (s := x0) (k := .i64) (i := x22) (by kernel_rfl) (by kernel_rfl) (by kernel_rfl) c28 c29) ?_)
    refine st 9 [] (k_val (.int .u8 (bt x0 x22)) (pr_indexStr (s := x0) (k := .i64) (i := x22) (by kernel_rfl) (by kernel_rfl) (by kernel_rfl) c28 c29) ?_)
    refine k_ite H (fun c30 H => ?_) (fun c30 H => ?_)
    ·refine st 5 [true] (k_val (.int .u8 (bt x0 x22)) (pr_indexStr (s := x0) (k := .i64) (i := x22) (by kernel_rfl) (by kernel_rfl) (by kernel_rfl) c28 c29) ?_)
     refine st 17 [] ?_
     exact k_endL ⟨k, Nat.lt_succ_self _, (w64 ((w64 (16 * x21)) + (w64 ((w64 ((bt x0 x22))) - 87)))), (w64 (x22 + 1)), H, ⟨by kernel_rfl, by kernel_rfl, by kernel_rfl, by kernel_rfl, trivial⟩, rfl⟩
    ·refine st 16 [false] ?_
     exact k_endL ⟨k, Nat.lt_succ_self _, (w64 ((w64 (16 * x21)) + (w64 ((w64 ((bt x0 x22))) - 48)))), (w64 (x22 + 1)), H, ⟨by kernel_rfl, by kernel_rfl, by kernel_rfl, by kernel_rfl, trivial⟩, rfl⟩
   ·refine st 2 [false] ?_
    refine k_out rfl ?_
    obtain rfl := Option.some.inj H
    exact xE ⟨x21, rfl, ⟨by kernel_rfl, trivial⟩, rfl⟩
 ·rintro ρ h1 ⟨x24, rfl, hf, rfl⟩
  have H := HR25
  try dsimp only at H
  refine k_fits _ hf ?_ rfl
  refine st 5 [] ?_
  refine k_retQ ?_
  obtain rfl := Option.some.inj H
  exact ⟨_, by kernel_rfl, rfl, rfl⟩

/-! shutter/shutterref01.Fill -/
def shutterref01_Fill.l1.m (K : Nat) : Nat → (List Int) → Option ((List Int))
  | 0, _ => none
  | k + 1, x39 => (if (Int.tmod (x39.length : Int) 64) = 56 then (some (x39)) else ((app x39 [0]).bind fun l55 => (shutterref01_Fill.l1.m K k l55)))
def shutterref01_Fill.l2.m (K : Nat) (x0 : (List Int)) : Nat → (List Int) → Int → Option ((List Int))
  | 0, _, _ => none
  | k + 1, x60, x65 => (if x65 < 8 then (if 0 ≤ (IntKind.u64.wrap ((w64 (56 - (w64 (8 * x65)))))) then ((app x60 [(IntKind.u8.wrap ((bAnd .i64 (shr .i64 (w64 (8 * (x0.length : Int))) (IntKind.u64.wrap ((w64 (56 - (w64 (8 * x65))))))) 255)))]).bind fun l78 => (shutterref01_Fill.l2.m K x0 k l78 (w64 (x65 + 1)))) else none) else (some (x60)))
def shutterref01_Fill.m (K : Nat) (x0 : (List Int)) : Option (List Int) :=
  ((app [] x0).bind fun l27 => ((app l27 [128]).bind fun l34 => ((shutterref01_Fill.l1.m K K l34).bind fun x45 => ((shutterref01_Fill.l2.m K x0 K x45 0).bind fun x67 => (some x67)))))

theorem shutterref01_Fill.calls {B I : Gh} {h : Heap} {K : Nat} {x0 : (List Int)} {a21 : Option Addr} {p22 : Nat} {n23 : Nat} {r : (List Int)} (H : shutterref01_Fill.m K x0 = some r)  :
    Fc Try.prog 21 #[.slice a21 n23 p22] [rR (tInt .u8) .b a21 p22 n23 x0] B I h (fun v L => ∃ (a83 : Option Addr) (p84 : Nat) (n85 : Nat), v = .slice a83 n85 p84 ∧ L = [rO (tInt .u8) .i a83 p84 n85 r]) := by
 refine fc_of fun E hs => ?_
 unfold shutterref01_Fill.m at H
 obtain rfl := hs.nR d0
 refine fn_of (args := [.slice a21 x0.length p22]) (rs := [.tmp 2]) (N := 37) Try.func21 rfl rfl rfl rfl ?_
 refine st 6 [] (k_op (nS (e := 5) hs .i (tInt .u8) ([] : List Int) [] 1 (.int .u8 0) (Reps.int (I := (Cl.G .i E.B I)) (k := .u8) (l := [])) ?_))
 intro b25 h hs
 obtain ⟨l27, m28, H⟩ := bind_some H
 refine st 1 [] (k_op (aO (e := 5) (bytes := 1) hs ((hs.sR d1).flat flat_int) m28 ?_))
 intro a29 p30 h hs
 refine k_op (nS (e := 5) hs .i (tInt .u8) ([128] : List Int) [.int .u8 128] 1 (.int .u8 0) (Reps.int (I := (Cl.G .i E.B I)) (k := .u8) (l := [128])) ?_)
 intro b32 h hs
 replace hs := (hs.f d1)
 obtain ⟨l34, m35, H⟩ := bind_some H
 refine k_op (aO (e := 5) (bytes := 1) hs (hs.sO d1) m35 ?_)
 intro a36 p37 h hs
 refine st 4 [] ?_
 obtain ⟨s44, m51, HR50⟩ := bind_some H
 refine k_loop 0 (fun k' ρ h => ∃ (x39 : List Int) (a40 : Option Addr) (p41 : Nat) (n42 : Nat) (I : Gh), shutterref01_Fill.l1.m K k' x39 = some s44 ∧ Fits [(0, .slice a21 x0.length p22), (3, .slice a40 n42 p41)] ρ ∧ St E [rR (tInt .u8) .b a21 p22 x0.length x0, rO (tInt .u8) .i a40 p41 n42 x39] I h) (fun ρ h => ∃ (x45 : List Int) (a46 : Option Addr) (p47 : Nat) (n48 : Nat) (I : Gh), x45 = s44 ∧ Fits [(0, .slice a21 x0.length p22), (3, .slice a46 n48 p47)] ρ ∧ St E [rR (tInt .u8) .b a21 p22 x0.length x0, rO (tInt .u8) .i a46 p47 n48 x45] I h) K ⟨l34, a36, p37, l34.length, I, m51, ⟨by kernel_rfl, by kernel_rfl, trivial⟩, hs.pk (.c d2 (.c d0 .n))⟩ ?_ rfl ?_
 ·clear HR50 m51 H
  rintro k' ρ h ⟨x39, a40, p41, n42, I, H, hf, hs⟩
  cases k' with
  | zero => cases H
  | succ k =>
   rw [shutterref01_Fill.l1.m] at H
   refine k_fits _ hf ?_ rfl
   obtain rfl := hs.nO d1
   refine st 6 [] (k_iteN H (fun c52 H => ?_) (fun c52 H => ?_))
   ·refine st 2 [false] ?_
    refine k_out rfl ?_
    obtain rfl := Option.some.inj H
    exact xE ⟨x39, a40, p41, x39.length, I, rfl, ⟨by kernel_rfl, by kernel_rfl, trivial⟩, hs.pk (.c d0 (.c d0 .n))⟩
   ·refine st 6 [true] (k_op (nS (e := 5) hs .i (tInt .u8) ([0] : List Int) [.int .u8 0] 1 (.int .u8 0) (Reps.int (I := (Cl.G .i E.B I)) (k := .u8) (l := [0])) ?_))
    intro b53 h hs
    replace hs := (hs.f d2)
    obtain ⟨l55, m56, H⟩ := bind_some H
    refine k_op (aO (e := 5) (bytes := 1) hs (hs.sO d1) m56 ?_)
    intro a57 p58 h hs
    refine st 3 [] ?_
    exact k_endL ⟨k, Nat.lt_succ_self _, l55, a57, p58, l55.length, I, H, ⟨by kernel_rfl, by kernel_rfl, trivial⟩, hs.pk (.c d2 (.c d0 .n))⟩
 ·rintro ρ h ⟨x45, a46, p47, n48, I, rfl, hf, hs⟩
  have H := HR50
  try dsimp only at H
  refine k_fits _ hf ?_ rfl
  obtain rfl := hs.nO d1
  refine st 13 [] ?_
  obtain ⟨s66, m73, HR72⟩ := bind_some H
  refine k_loop 2 (fun k' ρ h => ∃ (x60 : List Int) (x65 : Int) (a61 : Option Addr) (p62 : Nat) (n63 : Nat) (I : Gh), shutterref01_Fill.l2.m K x0 k' x60 x65 = some s66 ∧ Fits [(3, .slice a61 n63 p62), (4, .int .i64 (w64 (8 * (x0.length : Int)))), (5, .int .i64 x65)] ρ ∧ St E [rO (tInt .u8) .i a61 p62 n63 x60] I h) (fun ρ h => ∃ (x67 : List Int) (a68 : Option Addr) (p69 : Nat) (n70 : Nat) (I : Gh), x67 = s66 ∧ Fits [(3, .slice a68 n70 p69)] ρ ∧ St E [rO (tInt .u8) .i a68 p69 n70 x67] I h) K ⟨x45, 0, a46, p47, x45.length, I, m73, ⟨by kernel_rfl, by kernel_rfl, by kernel_rfl, trivial⟩, hs.pk (.c d1 .n)⟩ ?_ rfl ?_
  ·clear HR72 m73 H
   rintro k' ρ h ⟨x60, x65, a61, p62, n63, I, H, hf, hs⟩
   cases k' with
   | zero => cases H
   | succ k =>
    rw [shutterref01_Fill.l2.m] at H
    refine k_fits _ hf ?_ rfl
    obtain rfl := hs.nO d0
    refine st 4 [] (k_ite H (fun c74 H => ?_) (fun c74 H => ?_))
    ·obtain ⟨c75, H⟩ := guard_pos H
     refine st 12 [true] (k_val (.int .i64 (shr .i64 (w64 (8 * (x0.length : Int))) (IntKind.u64.wrap ((w64 (56 - (w64 (8 * x65)))))))) (pr_shr (k := .i64) (yk := .u64) (a := (w64 (8 * (x0.length : Int)))) (b := (IntKind.u64.wrap ((w64 (56 - (w64 (8 * x65))))))) (by kernel_rfl) (by kernel_rfl) c75) ?_)
     refine st 2 [] (k_op (nS (e := 5) hs .i (tInt .u8) ([(IntKind.u8.wrap ((bAnd .i64 (shr .i64 (w64 (8 * (x0.length : Int))) (IntKind.u64.wrap ((w64 (56 - (w64 (8 * x65))))))) 255)))] : List Int) [.int .u8 (IntKind.u8.wrap ((bAnd .i64 (shr .i64 (w64 (8 * (x0.length : Int))) (IntKind.u64.wrap ((w64 (56 - (w64 (8 * x65))))))) 255)))] 1 (.int .u8 0) (Reps.int (I := (Cl.G .i E.B I)) (k := .u8) (l := [(IntKind.u8.wrap ((bAnd .i64 (shr .i64 (w64 (8 * (x0.length : Int))) (IntKind.u64.wrap ((w64 (56 - (w64 (8 * x65))))))) 255)))])) ?_))
     intro b76 h hs
     replace hs := (hs.f d1)
     obtain ⟨l78, m79, H⟩ := bind_some H
     refine k_op (aO (e := 5) (bytes := 1) hs (hs.sO d1) m79 ?_)
     intro a80 p81 h hs
     refine st 8 [] ?_
     exact k_endL ⟨k, Nat.lt_succ_self _, l78, (w64 (x65 + 1)), a80, p81, l78.length, I, H, ⟨by kernel_rfl, by kernel_rfl, by kernel_rfl, trivial⟩, hs.pk (.c d0 .n)⟩
    ·refine st 2 [false] ?_
     refine k_out rfl ?_
     obtain rfl := Option.some.inj H
     exact xE ⟨x60, a61, p62, x60.length, I, rfl, ⟨by kernel_rfl, trivial⟩, hs.pk (.c d0 .n)⟩
  ·rintro ρ h ⟨x67, a68, p69, n70, I, rfl, hf, hs⟩
   have H := HR72
   try dsimp only at H
   refine k_fits _ hf ?_ rfl
   obtain rfl := hs.nO d0
   refine st 5 [] ?_
   refine k_retQ ?_
   obtain rfl := Option.some.inj H
   exact ⟨_, by kernel_rfl, I, _, ⟨a68, p69, x67.length, rfl, rfl⟩, hs.pk (.c d0 .n)⟩

/-! shutter/shutterref01.turn -/
def shutterref01_turn.m (x0 : Int) (x1 : Int) : Option Int :=
  (if 0 ≤ (IntKind.u64.wrap (x1)) then (if 0 ≤ (IntKind.u64.wrap ((w64 (32 - x1)))) then (some (bAnd .i64 (bOr .i64 (shr .i64 x0 (IntKind.u64.wrap (x1))) (shl .i64 x0 (IntKind.u64.wrap ((w64 (32 - x1)))))) 4294967295)) else none) else none)

theorem shutterref01_turn.calls {x0 : Int} {x1 : Int} {h : Heap} {r : Int} (H : shutterref01_turn.m x0 x1 = some r)   :
    Ret Try.prog 28 #[.int .i64 x0, .int .i64 x1] h (fun v h' => .int .i64 r = v ∧ h' = h) := by
 unfold shutterref01_turn.m at H
 refine fn_of (args := [.int .i64 x0, .int .i64 x1]) (rs := [.tmp 4]) (N := 16) Try.func28 rfl rfl rfl rfl ?_
 obtain ⟨c21, H⟩ := guard_pos H
 refine st 9 [] (k_val (.int .i64 (shr .i64 x0 (IntKind.u64.wrap (x1)))) (pr_shr (k := .i64) (yk := .u64) (a := x0) (b := (IntKind.u64.wrap (x1))) (by kernel_rfl) (by kernel_rfl) c21) ?_)
 obtain ⟨c22, H⟩ := guard_pos H
 refine st 4 [] (k_val (.int .i64 (shl .i64 x0 (IntKind.u64.wrap ((w64 (32 - x1)))))) (pr_shl (k := .i64) (yk := .u64) (a := x0) (b := (IntKind.u64.wrap ((w64 (32 - x1))))) (by kernel_rfl) (by kernel_rfl) c22) ?_)
 refine st 4 [] ?_
 refine k_retQ ?_
 obtain rfl := Option.some.inj H
 exact ⟨_, by kernel_rfl, rfl, rfl⟩

/-! shutter/shutterref01.both -/
def shutterref01_both.m (x0 : Int) (x1 : Int) : Option Int :=
  (some (bAnd .i64 x0 x1))

theorem shutterref01_both.calls {x0 : Int} {x1 : Int} {h : Heap} {r : Int} (H : shutterref01_both.m x0 x1 = some r)   :
    Ret Try.prog 29 #[.int .i64 x0, .int .i64 x1] h (fun v h' => .int .i64 r = v ∧ h' = h) := by
 unfold shutterref01_both.m at H
 refine fn_of (args := [.int .i64 x0, .int .i64 x1]) (rs := [.tmp 4]) (N := 8) Try.func29 rfl rfl rfl rfl ?_
 refine st 11 [] ?_
 refine k_retQ ?_
 obtain rfl := Option.some.inj H
 exact ⟨_, by kernel_rfl, rfl, rfl⟩

/-! shutter/shutterref01.Block -/
def shutterref01_Block.l1.m (K : Nat) (x1 : (List Int)) : Nat → (List Int) → Int → Option ((List Int))
  | 0, _, _ => none
  | k + 1, x28, x33 => (if x33 < 64 then (letJ (α := Bool → Option ((List Int))) (fun (x44 : Bool) => (bif x44 then (if 0 ≤ (w64 (4 * x33)) then (if (w64 (4 * x33)) < (x1.length : Int) then (if 0 ≤ (w64 ((w64 (4 * x33)) + 1)) then (if (w64 ((w64 (4 * x33)) + 1)) < (x1.length : Int) then (if 0 ≤ (w64 ((w64 (4 * x33)) + 2)) then (if (w64 ((w64 (4 * x33)) + 2)) < (x1.length : Int) then (if 0 ≤ (w64 ((w64 (4 * x33)) + 3)) then (if (w64 ((w64 (4 * x33)) + 3)) < (x1.length : Int) then ((app x28 [(w64 ((w64 ((w64 ((w64 (16777216 * (w64 ((at_ x1 (w64 (4 * x33))))))) + (w64 (65536 * (w64 ((at_ x1 (w64 ((w64 (4 * x33)) + 1))))))))) + (w64 (256 * (w64 ((at_ x1 (w64 ((w64 (4 * x33)) + 2))))))))) + (w64 ((at_ x1 (w64 ((w64 (4 * x33)) + 3)))))))]).bind fun l56 => (shutterref01_Block.l1.m K x1 k l56 (w64 (x33 + 1)))) else none) else none) else none) else none) else none) else none) else none) else none) else (if 0 ≤ (w64 (x33 - 15)) then (if (w64 (x33 - 15)) < (x28.length : Int) then (if 0 ≤ (w64 (x33 - 2)) then (if (w64 (x33 - 2)) < (x28.length : Int) then ((shutterref01_turn.m (at_ x28 (w64 (x33 - 15))) 7).bind fun t65 => ((shutterref01_turn.m (at_ x28 (w64 (x33 - 15))) 18).bind fun t66 => ((shutterref01_turn.m (at_ x28 (w64 (x33 - 2))) 17).bind fun t67 => ((shutterref01_turn.m (at_ x28 (w64 (x33 - 2))) 19).bind fun t68 => (if 0 ≤ (w64 (x33 - 7)) then (if (w64 (x33 - 7)) < (x28.length : Int) then (if 0 ≤ (w64 (x33 - 16)) then (if (w64 (x33 - 16)) < (x28.length : Int) then ((app x28 [(Int.tmod (w64 ((w64 ((w64 ((bXor .i64 (bXor .i64 t67 t68) (shr .i64 (at_ x28 (w64 (x33 - 2))) 10)) + (at_ x28 (w64 (x33 - 7))))) + (bXor .i64 (bXor .i64 t65 t66) (shr .i64 (at_ x28 (w64 (x33 - 15))) 3)))) + (at_ x28 (w64 (x33 - 16))))) 4294967296)]).bind fun l75 => (shutterref01_Block.l1.m K x1 k l75 (w64 (x33 + 1)))) else none) else none) else none) else none))))) else none) else none) else none) else none))) fun (j45 : Bool → Option ((List Int))) => (if x33 < 16 then (j45 true) else (j45 false))) else (some (x28)))
def shutterref01_Block.l2.m (K : Nat) (x35 : List Int) : Nat → Int → (List Int) → Option ((List Int))
  | 0, _, _ => none
  | k + 1, x82, x84 => (if x82 < 64 then ((shutterref01_turn.m (at_ x84 4) 6).bind fun t91 => ((shutterref01_turn.m (at_ x84 4) 11).bind fun t92 => ((shutterref01_turn.m (at_ x84 4) 25).bind fun t93 => ((shutterref01_both.m (at_ x84 4) (at_ x84 5)).bind fun t94 => ((shutterref01_both.m (w64 (4294967295 - (at_ x84 4))) (at_ x84 6)).bind fun t95 => (if 0 ≤ x82 then (if x82 < (x35.length : Int) then ((shutterref01_Word.m K (⟨#[52, 50, 56, 97, 50, 102, 57, 56, 55, 49, 51, 55, 52, 52, 57, 49, 98, 53, 99, 48, 102, 98, 99, 102, 101, 57, 98, 53, 100, 98, 97, 53, 51, 57, 53, 54, 99, 50, 53, 98, 53, 57, 102, 49, 49, 49, 102, 49, 57, 50, 51, 102, 56, 50, 97, 52, 97, 98, 49, 99, 53, 101, 100, 53, 100, 56, 48, 55, 97, 97, 57, 56, 49, 50, 56, 51, 53, 98, 48, 49, 50, 52, 51, 49, 56, 53, 98, 101, 53, 53, 48, 99, 55, 100, 99, 51, 55, 50, 98, 101, 53, 100, 55, 52, 56, 48, 100, 101, 98, 49, 102, 101, 57, 98, 100, 99, 48, 54, 97, 55, 99, 49, 57, 98, 102, 49, 55, 52, 101, 52, 57, 98, 54, 57, 99, 49, 101, 102, 98, 101, 52, 55, 56, 54, 48, 102, 99, 49, 57, 100, 99, 54, 50, 52, 48, 99, 97, 49, 99, 99, 50, 100, 101, 57, 50, 99, 54, 102, 52, 97, 55, 52, 56, 52, 97, 97, 53, 99, 98, 48, 97, 57, 100, 99, 55, 54, 102, 57, 56, 56, 100, 97, 57, 56, 51, 101, 53, 49, 53, 50, 97, 56, 51, 49, 99, 54, 54, 100, 98, 48, 48, 51, 50, 55, 99, 56, 98, 102, 53, 57, 55, 102, 99, 55, 99, 54, 101, 48, 48, 98, 102, 51, 100, 53, 97, 55, 57, 49, 52, 55, 48, 54, 99, 97, 54, 51, 53, 49, 49, 52, 50, 57, 50, 57, 54, 55, 50, 55, 98, 55, 48, 97, 56, 53, 50, 101, 49, 98, 50, 49, 51, 56, 52, 100, 50, 99, 54, 100, 102, 99, 53, 51, 51, 56, 48, 100, 49, 51, 54, 53, 48, 97, 55, 51, 53, 52, 55, 54, 54, 97, 48, 97, 98, 98, 56, 49, 99, 50, 99, 57, 50, 101, 57, 50, 55, 50, 50, 99, 56, 53, 97, 50, 98, 102, 101, 56, 97, 49, 97, 56, 49, 97, 54, 54, 52, 98, 99, 50, 52, 98, 56, 98, 55, 48, 99, 55, 54, 99, 53, 49, 97, 51, 100, 49, 57, 50, 101, 56, 49, 57, 100, 54, 57, 57, 48, 54, 50, 52, 102, 52, 48, 101, 51, 53, 56, 53, 49, 48, 54, 97, 97, 48, 55, 48, 49, 57, 97, 52, 99, 49, 49, 54, 49, 101, 51, 55, 54, 99, 48, 56, 50, 55, 52, 56, 55, 55, 52, 99, 51, 52, 98, 48, 98, 99, 98, 53, 51, 57, 49, 99, 48, 99, 98, 51, 52, 101, 100, 56, 97, 97, 52, 97, 53, 98, 57, 99, 99, 97, 52, 102, 54, 56, 50, 101, 54, 102, 102, 51, 55, 52, 56, 102, 56, 50, 101, 101, 55, 56, 97, 53, 54, 51, 54, 102, 56, 52, 99, 56, 55, 56, 49, 52, 56, 99, 99, 55, 48, 50, 48, 56, 57, 48, 98, 101, 102, 102, 102, 97, 97, 52, 53, 48, 54, 99, 101, 98, 98, 101, 102, 57, 97, 51, 102, 55, 99, 54, 55, 49, 55, 56, 102, 50]⟩ : ByteArray) x82).bind fun t98 => ((shutterref01_turn.m (at_ x84 0) 2).bind fun t99 => ((shutterref01_turn.m (at_ x84 0) 13).bind fun t100 => ((shutterref01_turn.m (at_ x84 0) 22).bind fun t101 => ((shutterref01_both.m (at_ x84 0) (at_ x84 1)).bind fun t102 => ((shutterref01_both.m (at_ x84 0) (at_ x84 2)).bind fun t103 => ((shutterref01_both.m (at_ x84 1) (at_ x84 2)).bind fun t104 => (shutterref01_Block.l2.m K x35 k (w64 (x82 + 1)) [(Int.tmod (w64 ((Int.tmod (w64 ((w64 ((w64 ((w64 ((at_ x84 7) + (bXor .i64 (bXor .i64 t91 t92) t93))) + (bXor .i64 t94 t95))) + t98)) + (at_ x35 x82))) 4294967296) + (Int.tmod (w64 ((bXor .i64 (bXor .i64 t99 t100) t101) + (bXor .i64 (bXor .i64 t102 t103) t104))) 4294967296))) 4294967296), (at_ x84 0), (at_ x84 1), (at_ x84 2), (Int.tmod (w64 ((at_ x84 3) + (Int.tmod (w64 ((w64 ((w64 ((w64 ((at_ x84 7) + (bXor .i64 (bXor .i64 t91 t92) t93))) + (bXor .i64 t94 t95))) + t98)) + (at_ x35 x82))) 4294967296))) 4294967296), (at_ x84 4), (at_ x84 5), (at_ x84 6)])))))))) else none) else none)))))) else (some (x84)))
def shutterref01_Block.l3.m (K : Nat) (x0 : (List Int)) : Nat → Int → (List Int) → Option ((List Int))
  | 0, _, _ => none
  | k + 1, x105, x107 => (if x105 < 8 then (if 0 ≤ x105 then (shutterref01_Block.l3.m K x0 k (w64 (x105 + 1)) (x107.set x105.toNat (Int.tmod (w64 ((at_ x107 x105) + (at_ x0 x105))) 4294967296))) else none) else (some (x107)))
def shutterref01_Block.m (K : Nat) (x0 : (List Int)) (x1 : (List Int)) : Option (List Int) :=
  ((shutterref01_Block.l1.m K x1 K [] 0).bind fun x35 => ((shutterref01_Block.l2.m K x35 K 0 x0).bind fun x87 => ((shutterref01_Block.l3.m K x0 K 0 x87).bind fun x110 => (some x110))))

theorem shutterref01_Block.calls {B I : Gh} {h : Heap} {K : Nat} {x0 : (List Int)} {x1 : (List Int)} {a22 : Option Addr} {p23 : Nat} {n24 : Nat} {r : (List Int)} (H : shutterref01_Block.m K x0 x1 = some r) (hl21 : List.length x0 = 8) :
    Fc Try.prog 22 #[.agg (List.map (Value.int .i64) x0).toArray, .slice a22 n24 p23] [rR (tInt .u8) .b a22 p23 n24 x1] B I h (fun v L => v = .agg (List.map (Value.int .i64) r).toArray ∧ L = [] ∧ List.length r = 8) := by
 refine fc_of fun E hs => ?_
 unfold shutterref01_Block.m at H
 obtain rfl := hs.nR d0
 refine fn_of2 (args := [.agg (List.map (Value.int .i64) x0).toArray, .slice a22 x1.length p23]) (rs := [.cell 4 41]) (N := 215) Try.func22 rfl rfl rfl rfl ?_
 refine st 2 [] (k_op (nB hs (List.map (Value.int .i64) x0) ?_))
 intro b26 h hs
 refine k_op (nA hs (List.map (Value.int .i64) (List.replicate 8 (0 : Int))) (.agg (List.map (Value.int .i64) (List.replicate 8 (0 : Int))).toArray) ?_)
 intro b27 h hs
 refine st 11 [] ?_
 obtain ⟨s34, m41, HR40⟩ := bind_some H
 refine k_loop 0 (fun k' ρ h => ∃ (x28 : List Int) (x33 : Int) (a29 : Option Addr) (p30 : Nat) (n31 : Nat) (I : Gh), shutterref01_Block.l1.m K x1 k' x28 x33 = some s34 ∧ Fits [(1, .slice a22 x1.length p23), (2, .pointer (some ⟨b26, 0, none⟩)), (4, .pointer (some ⟨b27, 0, none⟩)), (5, .slice a29 n31 p30), (6, .int .i64 x33)] ρ ∧ St E [rR (tInt .u8) .b a22 p23 x1.length x1, rO (tInt .i64) .i a29 p30 n31 x28, rB b26 (List.map (Value.int .i64) x0) 41, rB b27 (List.map (Value.int .i64) (List.replicate 8 (0 : Int))) 41] I h) (fun ρ h => ∃ (x35 : List Int) (a36 : Option Addr) (p37 : Nat) (n38 : Nat) (I : Gh), x35 = s34 ∧ Fits [(2, .pointer (some ⟨b26, 0, none⟩)), (4, .pointer (some ⟨b27, 0, none⟩)), (5, .slice a36 n38 p37)] ρ ∧ St E [rO (tInt .i64) .i a36 p37 n38 x35, rB b26 (List.map (Value.int .i64) x0) 41, rB b27 (List.map (Value.int .i64) (List.replicate 8 (0 : Int))) 41] I h) K ⟨[], 0, none, 0, 0, I, m41, ⟨by kernel_rfl, by kernel_rfl, by kernel_rfl, by kernel_rfl, by kernel_rfl, trivial⟩, hs.pk (.c d2 (.f imON (.c d1 (.c d0 .n))))⟩ ?_ rfl ?_
 ·clear HR40 m41 H
  rintro k' ρ h ⟨x28, x33, a29, p30, n31, I, H, hf, hs⟩
  cases k' with
  | zero => cases H
  | succ k =>
   rw [shutterref01_Block.l1.m] at H
   refine k_fits _ hf ?_ rfl
   obtain rfl := hs.nO d1
   refine st 4 [] (k_ite H (fun c42 H => ?_) (fun c42 H => ?_))
   ·refine st 7 [true] ?_
    obtain ⟨j45, e80, H⟩ := letJ_some H
    refine k_join (fun ρ h => ∃ (x44 : Bool) (I : Gh), j45 x44 = some s34 ∧ Fits [(1, .slice a22 x1.length p23), (2, .pointer (some ⟨b26, 0, none⟩)), (4, .pointer (some ⟨b27, 0, none⟩)), (5, .slice a29 x28.length p30), (6, .int .i64 x33), (27, .bool x44)] ρ ∧ St E [rR (tInt .u8) .b a22 p23 x1.length x1, rO (tInt .i64) .i a29 p30 x28.length x28, rB b26 (List.map (Value.int .i64) x0) 41, rB b27 (List.map (Value.int .i64) (List.replicate 8 (0 : Int))) 41] I h) ?_ ?_
    ·refine st 2 [] (k_ite H (fun c43 H => ?_) (fun c43 H => ?_))
     ·refine st 1 [] ?_
      exact k_end ⟨true, I, H, ⟨by kernel_rfl, by kernel_rfl, by kernel_rfl, by kernel_rfl, by kernel_rfl, by kernel_rfl, trivial⟩, hs.pk (.c d0 (.c d0 (.c d0 (.c d0 .n))))⟩
     ·refine st 1 [] ?_
      exact k_end ⟨false, I, H, ⟨by kernel_rfl, by kernel_rfl, by kernel_rfl, by kernel_rfl, by kernel_rfl, by kernel_rfl, trivial⟩, hs.pk (.c d0 (.c d0 (.c d0 (.c d0 .n))))⟩
    ·clear H
     rintro ρ h ⟨x44, I, H, hf, hs⟩
     refine k_fits _ hf ?_ rfl
     subst e80
     try dsimp only at H
     cases x44
     ·rw [cond_false] at H
      obtain ⟨c61, H⟩ := guard_pos H
      obtain ⟨c62, H⟩ := guard_pos H
      refine st 7 [false] (k_val (elemPtr a29 ((w64 (x33 - 15)).toNat * 1)) (pI (e := 3) (ik := .i64) (hs.sO d1) c61 c62) ?_)
      refine k_op (lC ((hs.sO d1).cell1 c61 c62) ?_)
      obtain ⟨c63, H⟩ := guard_pos H
      obtain ⟨c64, H⟩ := guard_pos H
      refine st 7 [] (k_val (elemPtr a29 ((w64 (x33 - 2)).toNat * 1)) (pI (e := 3) (ik := .i64) (hs.sO d1) c63 c64) ?_)
      refine k_op (lC ((hs.sO d1).cell1 c63 c64) ?_)
      refine st 5 [] (k_call H (fun _ m => shutterref01_turn.calls m) ?_)
      rintro t65 _ _ H ⟨rfl, rfl⟩
      refine st 1 [] (k_call H (fun _ m => shutterref01_turn.calls m) ?_)
      rintro t66 _ _ H ⟨rfl, rfl⟩
      refine st 9 [] (k_call H (fun _ m => shutterref01_turn.calls m) ?_)
      rintro t67 _ _ H ⟨rfl, rfl⟩
      refine st 1 [] (k_call H (fun _ m => shutterref01_turn.calls m) ?_)
      rintro t68 _ _ H ⟨rfl, rfl⟩
      refine st 6 [] ?_
      obtain ⟨hs0, bk0⟩ := hs.call tk0 (.c (qO d1) .n)
      have hs := hs0
      refine k_regD hs0 18 ?_
      obtain ⟨c69, H⟩ := guard_pos H
      obtain ⟨c70, H⟩ := guard_pos H
      refine aRun [0, 1, 2, 3, 4] 15 hs.keep ?_
      refine aP 5 (elemPtr a29 ((w64 (x33 - 7)).toNat * 1)) rfl (pI (e := 3) (ik := .i64) (hs.sR d0) c69 c70) hs.keep ?_
      refine aL 6 rfl hs.keep ((hs0.sR d0).cell1 c69 c70) (nmR hs0 d0 c69 c70) ?_
      obtain ⟨c71, H⟩ := guard_pos H
      obtain ⟨c72, H⟩ := guard_pos H
      refine aRun [7, 8, 9, 10, 11, 12] 7 hs.keep ?_
      refine aP 13 (elemPtr a29 ((w64 (x33 - 16)).toNat * 1)) rfl (pI (e := 3) (ik := .i64) (hs.sR d0) c71 c72) hs.keep ?_
      refine aL 14 rfl hs.keep ((hs0.sR d0).cell1 c71 c72) (nmR hs0 d0 c71 c72) ?_
      refine aRun [15, 16] 3 hs.keep ?_
      refine aO1 17 rfl (nS (e := 3) hs .i (tInt .i64) ([(Int.tmod (w64 ((w64 ((w64 ((bXor .i64 (bXor .i64 t67 t68) (shr .i64 (at_ x28 (w64 (x33 - 2))) 10)) + (at_ x28 (w64 (x33 - 7))))) + (bXor .i64 (bXor .i64 t65 t66) (shr .i64 (at_ x28 (w64 (x33 - 15))) 3)))) + (at_ x28 (w64 (x33 - 16))))) 4294967296)] : List Int) [.int .i64 (Int.tmod (w64 ((w64 ((w64 ((bXor .i64 (bXor .i64 t67 t68) (shr .i64 (at_ x28 (w64 (x33 - 2))) 10)) + (at_ x28 (w64 (x33 - 7))))) + (bXor .i64 (bXor .i64 t65 t66) (shr .i64 (at_ x28 (w64 (x33 - 15))) 3)))) + (at_ x28 (w64 (x33 - 16))))) 4294967296)] 1 (.int .i64 0) (Reps.int (I := (Cl.G .i E.B I)) (k := .i64) (l := [(Int.tmod (w64 ((w64 ((w64 ((bXor .i64 (bXor .i64 t67 t68) (shr .i64 (at_ x28 (w64 (x33 - 2))) 10)) + (at_ x28 (w64 (x33 - 7))))) + (bXor .i64 (bXor .i64 t65 t66) (shr .i64 (at_ x28 (w64 (x33 - 15))) 3)))) + (at_ x28 (w64 (x33 - 16))))) 4294967296)])) ?_)
      intro b73 h hs
      refine ⟨hs.keep, ?_⟩
      replace hs := hs.pk (.c d0 .n)
      replace hs := bk0 hs ct1 rfl
      replace hs := (hs.f d2)
      obtain ⟨l75, m76, H⟩ := bind_some H
      refine aOL 18 rfl (aO (e := 3) (bytes := 8) hs (hs.sO d1) m76 ?_)
      intro a77 p78 h hs
      refine aOL 19 rfl (owp_pure (.slice a77 l75.length p78) (by kernel_rfl) ?_)
      refine aEnd ?_
      refine st 6 [] ?_
      exact k_endL ⟨k, Nat.lt_succ_self _, l75, (w64 (x33 + 1)), a77, p78, l75.length, I, H, ⟨by kernel_rfl, by kernel_rfl, by kernel_rfl, by kernel_rfl, by kernel_rfl, trivial⟩, hs.pk (.c d2 (.c d0 (.c d1 (.c d1 .n))))⟩
     ·rw [cond_true] at H
      refine st 2 [true] ?_
      obtain ⟨hs0, bk0⟩ := hs.call tk0 (.c (qB d0) .n)
      have hs := hs0
      refine k_regD hs0 35 ?_
      obtain ⟨c46, H⟩ := guard_pos H
      obtain ⟨c47, H⟩ := guard_pos H
      refine aRun [0, 1, 2, 3] 33 hs.keep ?_
      refine aP 4 (elemPtr a22 ((w64 (4 * x33)).toNat * 1)) rfl (pI (e := 5) (ik := .i64) (hs.sR d0) c46 c47) hs.keep ?_
      refine aL 5 rfl hs.keep ((hs0.sR d0).cell1 c46 c47) (nmR hs0 d0 c46 c47) ?_
      obtain ⟨c48, H⟩ := guard_pos H
      obtain ⟨c49, H⟩ := guard_pos H
      refine aRun [6, 7, 8, 9, 10, 11] 25 hs.keep ?_
      refine aP 12 (elemPtr a22 ((w64 ((w64 (4 * x33)) + 1)).toNat * 1)) rfl (pI (e := 5) (ik := .i64) (hs.sR d0) c48 c49) hs.keep ?_
      refine aL 13 rfl hs.keep ((hs0.sR d0).cell1 c48 c49) (nmR hs0 d0 c48 c49) ?_
      obtain ⟨c50, H⟩ := guard_pos H
      obtain ⟨c51, H⟩ := guard_pos H
      refine aRun [14, 15, 16, 17, 18, 19, 20] 16 hs.keep ?_
      refine aP 21 (elemPtr a22 ((w64 ((w64 (4 * x33)) + 2)).toNat * 1)) rfl (pI (e := 5) (ik := .i64) (hs.sR d0) c50 c51) hs.keep ?_
      refine aL 22 rfl hs.keep ((hs0.sR d0).cell1 c50 c51) (nmR hs0 d0 c50 c51) ?_
      obtain ⟨c52, H⟩ := guard_pos H
      obtain ⟨c53, H⟩ := guard_pos H
      refine aRun [23, 24, 25, 26, 27, 28, 29] 7 hs.keep ?_
      refine aP 30 (elemPtr a22 ((w64 ((w64 (4 * x33)) + 3)).toNat * 1)) rfl (pI (e := 5) (ik := .i64) (hs.sR d0) c52 c53) hs.keep ?_
      refine aL 31 rfl hs.keep ((hs0.sR d0).cell1 c52 c53) (nmR hs0 d0 c52 c53) ?_
      refine aRun [32, 33] 3 hs.keep ?_
      refine aO1 34 rfl (nS (e := 3) hs .i (tInt .i64) ([(w64 ((w64 ((w64 ((w64 (16777216 * (w64 ((at_ x1 (w64 (4 * x33))))))) + (w64 (65536 * (w64 ((at_ x1 (w64 ((w64 (4 * x33)) + 1))))))))) + (w64 (256 * (w64 ((at_ x1 (w64 ((w64 (4 * x33)) + 2))))))))) + (w64 ((at_ x1 (w64 ((w64 (4 * x33)) + 3)))))))] : List Int) [.int .i64 (w64 ((w64 ((w64 ((w64 (16777216 * (w64 ((at_ x1 (w64 (4 * x33))))))) + (w64 (65536 * (w64 ((at_ x1 (w64 ((w64 (4 * x33)) + 1))))))))) + (w64 (256 * (w64 ((at_ x1 (w64 ((w64 (4 * x33)) + 2))))))))) + (w64 ((at_ x1 (w64 ((w64 (4 * x33)) + 3)))))))] 1 (.int .i64 0) (Reps.int (I := (Cl.G .i E.B I)) (k := .i64) (l := [(w64 ((w64 ((w64 ((w64 (16777216 * (w64 ((at_ x1 (w64 (4 * x33))))))) + (w64 (65536 * (w64 ((at_ x1 (w64 ((w64 (4 * x33)) + 1))))))))) + (w64 (256 * (w64 ((at_ x1 (w64 ((w64 (4 * x33)) + 2))))))))) + (w64 ((at_ x1 (w64 ((w64 (4 * x33)) + 3)))))))])) ?_)
      intro b54 h hs
      refine ⟨hs.keep, ?_⟩
      replace hs := hs.pk (.c d0 .n)
      replace hs := bk0 hs ct1 rfl
      replace hs := (hs.f d2)
      obtain ⟨l56, m57, H⟩ := bind_some H
      refine aOL 35 rfl (aO (e := 3) (bytes := 8) hs (hs.sO d1) m57 ?_)
      intro a58 p59 h hs
      refine aOL 36 rfl (owp_pure (.slice a58 l56.length p59) (by kernel_rfl) ?_)
      refine aEnd ?_
      refine st 6 [] ?_
      exact k_endL ⟨k, Nat.lt_succ_self _, l56, (w64 (x33 + 1)), a58, p59, l56.length, I, H, ⟨by kernel_rfl, by kernel_rfl, by kernel_rfl, by kernel_rfl, by kernel_rfl, trivial⟩, hs.pk (.c d2 (.c d0 (.c d1 (.c d1 .n))))⟩
   ·refine st 2 [false] ?_
    refine k_out rfl ?_
    obtain rfl := Option.some.inj H
    exact xE ⟨x28, a29, p30, x28.length, I, rfl, ⟨by kernel_rfl, by kernel_rfl, by kernel_rfl, trivial⟩, hs.pk (.c d1 (.c d1 (.c d1 .n)))⟩
 ·rintro ρ h ⟨x35, a36, p37, n38, I, rfl, hf, hs⟩
  have H := HR40
  try dsimp only at H
  refine k_fits _ hf ?_ rfl
  obtain rfl := hs.nO d0
  refine st 2 [] (k_op (lG ((hs.bl d1).arrSeg hl21) ?_))
  refine k_op (nA hs (List.map (Value.int .i64) (List.replicate 8 (0 : Int))) (.agg (List.map (Value.int .i64) (List.replicate 8 (0 : Int))).toArray) ?_)
  intro b81 h hs
  refine k_op (sAN (l2 := x0) hs (List.length_replicate (n := 8) (a := (0 : Int))) hl21 ?_)
  intro h hs
  refine st 7 [] ?_
  obtain ⟨s85, m89, HR88⟩ := bind_some H
  refine k_loop 2 (fun k' ρ h => ∃ (x82 : Int) (x84 : List Int) (I : Gh), shutterref01_Block.l2.m K x35 k' x82 x84 = some s85 ∧ Fits [(2, .pointer (some ⟨b26, 0, none⟩)), (4, .pointer (some ⟨b27, 0, none⟩)), (5, .slice a36 x35.length p37), (11, .pointer (some ⟨b81, 0, none⟩)), (12, .int .i64 x82)] ρ ∧ List.length x84 = 8 ∧ St E [rO (tInt .i64) .i a36 p37 x35.length x35, rB b26 (List.map (Value.int .i64) x0) 41, rB b27 (List.map (Value.int .i64) (List.replicate 8 (0 : Int))) 41, rB b81 (List.map (Value.int .i64) x84) 41] I h) (fun ρ h => ∃ (x87 : List Int) (I : Gh), x87 = s85 ∧ Fits [(2, .pointer (some ⟨b26, 0, none⟩)), (4, .pointer (some ⟨b27, 0, none⟩)), (11, .pointer (some ⟨b81, 0, none⟩))] ρ ∧ List.length x87 = 8 ∧ St E [rB b26 (List.map (Value.int .i64) x0) 41, rB b27 (List.map (Value.int .i64) (List.replicate 8 (0 : Int))) 41, rB b81 (List.map (Value.int .i64) x87) 41] I h) K ⟨0, x0, I, m89, ⟨by kernel_rfl, by kernel_rfl, by kernel_rfl, by kernel_rfl, by kernel_rfl, trivial⟩, hl21, hs.pk (.c d1 (.c d1 (.c d1 (.c d0 .n))))⟩ ?_ rfl ?_
  ·clear HR88 m89 H
   rintro k' ρ h ⟨x82, x84, I, H, hf, hl83, hs⟩
   cases k' with
   | zero => cases H
   | succ k =>
    rw [shutterref01_Block.l2.m] at H
    refine k_fits _ hf ?_ rfl
    refine st 4 [] (k_ite H (fun c90 H => ?_) (fun c90 H => ?_))
    ·refine st 7 [true] (k_val (elemPtr (some ⟨b81, 0, none⟩) ((4 : Int).toNat * 1)) (pr_indexArr (e := 3) (kk := .i64) (n := 8) (by kernel_rfl) (by kernel_rfl) (by kernel_rfl) (by kernel_rfl) (by decide) (by decide)) ?_)
     refine k_op (lC (((hs.bl d3)).arrCell (i := 4) hl83 (by decide) (by decide)) ?_)
     refine st 4 [] (k_val (elemPtr (some ⟨b81, 0, none⟩) ((0 : Int).toNat * 1)) (pr_indexArr (e := 3) (kk := .i64) (n := 8) (by kernel_rfl) (by kernel_rfl) (by kernel_rfl) (by kernel_rfl) (by decide) (by decide)) ?_)
     refine k_op (lC (((hs.bl d3)).arrCell (i := 0) hl83 (by decide) (by decide)) ?_)
     refine st 5 [] (k_call H (fun _ m => shutterref01_turn.calls m) ?_)
     rintro t91 _ _ H ⟨rfl, rfl⟩
     refine st 1 [] (k_call H (fun _ m => shutterref01_turn.calls m) ?_)
     rintro t92 _ _ H ⟨rfl, rfl⟩
     refine st 2 [] (k_call H (fun _ m => shutterref01_turn.calls m) ?_)
     rintro t93 _ _ H ⟨rfl, rfl⟩
     refine st 4 [] ?_
     obtain ⟨hs0, bk0⟩ := hs.call tk0 (.c (qL d3) .n)
     have hs := hs0
     refine k_regD hs0 11 ?_
     refine aRun [0] 10 hs.keep ?_
     refine aP 1 (elemPtr (some ⟨b81, 0, none⟩) ((5 : Int).toNat * 1)) rfl (pr_indexArr (e := 3) (kk := .i64) (n := 8) (by kernel_rfl) (by kernel_rfl) (by kernel_rfl) (by kernel_rfl) (by decide) (by decide)) hs.keep ?_
     refine aL 2 rfl hs.keep ((OwnB.mk (I := No) (hs0.g d0).1 (fun x => x)).arrCell (i := 5) hl83 (by decide) (by decide)) (nmL hs0 d0) ?_
     refine aRun [4, 5] 6 hs.keep ?_
     refine aP 6 (elemPtr (some ⟨b81, 0, none⟩) ((6 : Int).toNat * 1)) rfl (pr_indexArr (e := 3) (kk := .i64) (n := 8) (by kernel_rfl) (by kernel_rfl) (by kernel_rfl) (by kernel_rfl) (by decide) (by decide)) hs.keep ?_
     refine aL 7 rfl hs.keep ((OwnB.mk (I := No) (hs0.g d0).1 (fun x => x)).arrCell (i := 6) hl83 (by decide) (by decide)) (nmL hs0 d0) ?_
     refine aO1 3 rfl (o_call H (fun _ m => shutterref01_both.calls m) ?_)
     rintro t94 _ _ H ⟨rfl, rfl⟩
     refine ⟨hs.keep, ?_⟩
     refine aO1 8 rfl (o_call H (fun _ m => shutterref01_both.calls m) ?_)
     rintro t95 _ _ H ⟨rfl, rfl⟩
     refine ⟨hs.keep, ?_⟩
     refine aRun [9, 10] 0 hs.keep ?_
     replace hs := hs.pk .n
     replace hs := bk0 hs ct0 rfl
     refine aEnd ?_
     refine st 1 [] ?_
     obtain ⟨hs0, bk0⟩ := hs.call tk0 (.c (qL d3) (.c (qO d0) .n))
     have hs := hs0
     refine k_regD hs0 16 ?_
     refine aP 0 (elemPtr (some ⟨b81, 0, none⟩) ((7 : Int).toNat * 1)) rfl (pr_indexArr (e := 3) (kk := .i64) (n := 8) (by kernel_rfl) (by kernel_rfl) (by kernel_rfl) (by kernel_rfl) (by decide) (by decide)) hs.keep ?_
     refine aL 1 rfl hs.keep ((OwnB.mk (I := No) (hs0.g d0).1 (fun x => x)).arrCell (i := 7) hl83 (by decide) (by decide)) (nmL hs0 d0) ?_
     obtain ⟨c96, H⟩ := guard_pos H
     obtain ⟨c97, H⟩ := guard_pos H
     refine aRun [2, 3, 4, 5, 6, 9, 10] 7 hs.keep ?_
     refine aP 11 (elemPtr a36 (x82.toNat * 1)) rfl (pI (e := 3) (ik := .i64) (hs.sR d1) c96 c97) hs.keep ?_
     refine aL 12 rfl hs.keep ((hs0.sR d1).cell1 c96 c97) (nmR hs0 d1 c96 c97) ?_
     refine aO1 7 rfl (o_call H (fun _ m => shutterref01_Word.calls m) ?_)
     rintro t98 _ _ H ⟨rfl, rfl⟩
     refine ⟨hs.keep, ?_⟩
     refine aRun [8, 13, 14, 15] 0 hs.keep ?_
     replace hs := hs.pk .n
     replace hs := bk0 hs ct0 rfl
     refine aEnd ?_
     refine st 3 [] (k_call H (fun _ m => shutterref01_turn.calls m) ?_)
     rintro t99 _ _ H ⟨rfl, rfl⟩
     refine st 1 [] (k_call H (fun _ m => shutterref01_turn.calls m) ?_)
     rintro t100 _ _ H ⟨rfl, rfl⟩
     refine st 2 [] (k_call H (fun _ m => shutterref01_turn.calls m) ?_)
     rintro t101 _ _ H ⟨rfl, rfl⟩
     refine st 4 [] ?_
     obtain ⟨hs0, bk0⟩ := hs.call tk0 (.c (qL d3) .n)
     have hs := hs0
     refine k_regD hs0 16 ?_
     refine aRun [0] 15 hs.keep ?_
     refine aP 1 (elemPtr (some ⟨b81, 0, none⟩) ((1 : Int).toNat * 1)) rfl (pr_indexArr (e := 3) (kk := .i64) (n := 8) (by kernel_rfl) (by kernel_rfl) (by kernel_rfl) (by kernel_rfl) (by decide) (by decide)) hs.keep ?_
     refine aL 2 rfl hs.keep ((OwnB.mk (I := No) (hs0.g d0).1 (fun x => x)).arrCell (i := 1) hl83 (by decide) (by decide)) (nmL hs0 d0) ?_
     refine aRun [4] 12 hs.keep ?_
     refine aP 5 (elemPtr (some ⟨b81, 0, none⟩) ((2 : Int).toNat * 1)) rfl (pr_indexArr (e := 3) (kk := .i64) (n := 8) (by kernel_rfl) (by kernel_rfl) (by kernel_rfl) (by kernel_rfl) (by decide) (by decide)) hs.keep ?_
     refine aL 6 rfl hs.keep ((OwnB.mk (I := No) (hs0.g d0).1 (fun x => x)).arrCell (i := 2) hl83 (by decide) (by decide)) (nmL hs0 d0) ?_
     refine aP 9 (elemPtr (some ⟨b81, 0, none⟩) ((1 : Int).toNat * 1)) rfl (pr_indexArr (e := 3) (kk := .i64) (n := 8) (by kernel_rfl) (by kernel_rfl) (by kernel_rfl) (by kernel_rfl) (by decide) (by decide)) hs.keep ?_
     refine aL 10 rfl hs.keep ((OwnB.mk (I := No) (hs0.g d0).1 (fun x => x)).arrCell (i := 1) hl83 (by decide) (by decide)) (nmL hs0 d0) ?_
     refine aP 11 (elemPtr (some ⟨b81, 0, none⟩) ((2 : Int).toNat * 1)) rfl (pr_indexArr (e := 3) (kk := .i64) (n := 8) (by kernel_rfl) (by kernel_rfl) (by kernel_rfl) (by kernel_rfl) (by decide) (by decide)) hs.keep ?_
     refine aL 12 rfl hs.keep ((OwnB.mk (I := No) (hs0.g d0).1 (fun x => x)).arrCell (i := 2) hl83 (by decide) (by decide)) (nmL hs0 d0) ?_
     refine aO1 3 rfl (o_call H (fun _ m => shutterref01_both.calls m) ?_)
     rintro t102 _ _ H ⟨rfl, rfl⟩
     refine ⟨hs.keep, ?_⟩
     refine aO1 7 rfl (o_call H (fun _ m => shutterref01_both.calls m) ?_)
     rintro t103 _ _ H ⟨rfl, rfl⟩
     refine ⟨hs.keep, ?_⟩
     refine aRun [8] 3 hs.keep ?_
     refine aO1 13 rfl (o_call H (fun _ m => shutterref01_both.calls m) ?_)
     rintro t104 _ _ H ⟨rfl, rfl⟩
     refine ⟨hs.keep, ?_⟩
     refine aRun [14, 15] 0 hs.keep ?_
     replace hs := hs.pk .n
     replace hs := bk0 hs ct0 rfl
     refine aEnd ?_
     refine st 13 [] (k_val (elemPtr (some ⟨b81, 0, none⟩) ((0 : Int).toNat * 1)) (pr_indexArr (e := 3) (kk := .i64) (n := 8) (by kernel_rfl) (by kernel_rfl) (by kernel_rfl) (by kernel_rfl) (by decide) (by decide)) ?_)
     refine k_op (lC (((hs.bl d3)).arrCell (i := 0) hl83 (by decide) (by decide)) ?_)
     refine k_val (elemPtr (some ⟨b81, 0, none⟩) ((1 : Int).toNat * 1)) (pr_indexArr (e := 3) (kk := .i64) (n := 8) (by kernel_rfl) (by kernel_rfl) (by kernel_rfl) (by kernel_rfl) (by decide) (by decide)) ?_
     refine k_op (lC (((hs.bl d3)).arrCell (i := 1) hl83 (by decide) (by decide)) ?_)
     refine k_val (elemPtr (some ⟨b81, 0, none⟩) ((2 : Int).toNat * 1)) (pr_indexArr (e := 3) (kk := .i64) (n := 8) (by kernel_rfl) (by kernel_rfl) (by kernel_rfl) (by kernel_rfl) (by decide) (by decide)) ?_
     refine k_op (lC (((hs.bl d3)).arrCell (i := 2) hl83 (by decide) (by decide)) ?_)
     refine k_val (elemPtr (some ⟨b81, 0, none⟩) ((3 : Int).toNat * 1)) (pr_indexArr (e := 3) (kk := .i64) (n := 8) (by kernel_rfl) (by kernel_rfl) (by kernel_rfl) (by kernel_rfl) (by decide) (by decide)) ?_
     refine k_op (lC (((hs.bl d3)).arrCell (i := 3) hl83 (by decide) (by decide)) ?_)
     refine st 3 [] (k_val (elemPtr (some ⟨b81, 0, none⟩) ((4 : Int).toNat * 1)) (pr_indexArr (e := 3) (kk := .i64) (n := 8) (by kernel_rfl) (by kernel_rfl) (by kernel_rfl) (by kernel_rfl) (by decide) (by decide)) ?_)
     refine k_op (lC (((hs.bl d3)).arrCell (i := 4) hl83 (by decide) (by decide)) ?_)
     refine k_val (elemPtr (some ⟨b81, 0, none⟩) ((5 : Int).toNat * 1)) (pr_indexArr (e := 3) (kk := .i64) (n := 8) (by kernel_rfl) (by kernel_rfl) (by kernel_rfl) (by kernel_rfl) (by decide) (by decide)) ?_
     refine k_op (lC (((hs.bl d3)).arrCell (i := 5) hl83 (by decide) (by decide)) ?_)
     refine k_val (elemPtr (some ⟨b81, 0, none⟩) ((6 : Int).toNat * 1)) (pr_indexArr (e := 3) (kk := .i64) (n := 8) (by kernel_rfl) (by kernel_rfl) (by kernel_rfl) (by kernel_rfl) (by decide) (by decide)) ?_
     refine k_op (lC (((hs.bl d3)).arrCell (i := 6) hl83 (by decide) (by decide)) ?_)
     refine st 1 [] (k_op (sAN (l2 := [(Int.tmod (w64 ((Int.tmod (w64 ((w64 ((w64 ((w64 ((at_ x84 7) + (bXor .i64 (bXor .i64 t91 t92) t93))) + (bXor .i64 t94 t95))) + t98)) + (at_ x35 x82))) 4294967296) + (Int.tmod (w64 ((bXor .i64 (bXor .i64 t99 t100) t101) + (bXor .i64 (bXor .i64 t102 t103) t104))) 4294967296))) 4294967296), (at_ x84 0), (at_ x84 1), (at_ x84 2), (Int.tmod (w64 ((at_ x84 3) + (Int.tmod (w64 ((w64 ((w64 ((w64 ((at_ x84 7) + (bXor .i64 (bXor .i64 t91 t92) t93))) + (bXor .i64 t94 t95))) + t98)) + (at_ x35 x82))) 4294967296))) 4294967296), (at_ x84 4), (at_ x84 5), (at_ x84 6)]) (hs.f d3) hl83 rfl ?_))
     intro h hs
     refine st 7 [] ?_
     exact k_endL ⟨k, Nat.lt_succ_self _, (w64 (x82 + 1)), [(Int.tmod (w64 ((Int.tmod (w64 ((w64 ((w64 ((w64 ((at_ x84 7) + (bXor .i64 (bXor .i64 t91 t92) t93))) + (bXor .i64 t94 t95))) + t98)) + (at_ x35 x82))) 4294967296) + (Int.tmod (w64 ((bXor .i64 (bXor .i64 t99 t100) t101) + (bXor .i64 (bXor .i64 t102 t103) t104))) 4294967296))) 4294967296), (at_ x84 0), (at_ x84 1), (at_ x84 2), (Int.tmod (w64 ((at_ x84 3) + (Int.tmod (w64 ((w64 ((w64 ((w64 ((at_ x84 7) + (bXor .i64 (bXor .i64 t91 t92) t93))) + (bXor .i64 t94 t95))) + t98)) + (at_ x35 x82))) 4294967296))) 4294967296), (at_ x84 4), (at_ x84 5), (at_ x84 6)], I, H, ⟨by kernel_rfl, by kernel_rfl, by kernel_rfl, by kernel_rfl, by kernel_rfl, trivial⟩, rfl, hs.pk (.c d1 (.c d1 (.c d1 (.c d0 .n))))⟩
    ·refine st 2 [false] ?_
     refine k_out rfl ?_
     obtain rfl := Option.some.inj H
     exact xE ⟨x84, I, rfl, ⟨by kernel_rfl, by kernel_rfl, by kernel_rfl, trivial⟩, hl83, hs.pk (.c d1 (.c d1 (.c d1 .n)))⟩
  ·rintro ρ h ⟨x87, I, rfl, hf, hl86, hs⟩
   have H := HR88
   try dsimp only at H
   refine k_fits _ hf ?_ rfl
   refine st 6 [] ?_
   obtain ⟨s108, m112, HR111⟩ := bind_some H
   refine k_loop 4 (fun k' ρ h => ∃ (x105 : Int) (x107 : List Int) (I : Gh), shutterref01_Block.l3.m K x0 k' x105 x107 = some s108 ∧ Fits [(2, .pointer (some ⟨b26, 0, none⟩)), (4, .pointer (some ⟨b27, 0, none⟩)), (11, .pointer (some ⟨b81, 0, none⟩)), (21, .int .i64 x105)] ρ ∧ List.length x107 = 8 ∧ St E [rB b26 (List.map (Value.int .i64) x0) 41, rB b27 (List.map (Value.int .i64) (List.replicate 8 (0 : Int))) 41, rB b81 (List.map (Value.int .i64) x107) 41] I h) (fun ρ h => ∃ (x110 : List Int) (I : Gh), x110 = s108 ∧ Fits [(4, .pointer (some ⟨b27, 0, none⟩)), (11, .pointer (some ⟨b81, 0, none⟩))] ρ ∧ List.length x110 = 8 ∧ St E [rB b27 (List.map (Value.int .i64) (List.replicate 8 (0 : Int))) 41, rB b81 (List.map (Value.int .i64) x110) 41] I h) K ⟨0, x87, I, m112, ⟨by kernel_rfl, by kernel_rfl, by kernel_rfl, by kernel_rfl, trivial⟩, hl86, hs.pk (.c d0 (.c d0 (.c d0 .n)))⟩ ?_ rfl ?_
   ·clear HR111 m112 H
    rintro k' ρ h ⟨x105, x107, I, H, hf, hl106, hs⟩
    cases k' with
    | zero => cases H
    | succ k =>
     rw [shutterref01_Block.l3.m] at H
     refine k_fits _ hf ?_ rfl
     refine st 4 [] (k_ite H (fun c113 H => ?_) (fun c113 H => ?_))
     ·refine st 5 [true] ?_
      obtain ⟨hs0, bk0⟩ := hs.call tk0 (.c (qL d2) (.c (qL d0) .n))
      have hs := hs0
      refine k_regD hs0 10 ?_
      obtain ⟨c114, H⟩ := guard_pos H
      refine aRun [0, 1] 9 hs.keep ?_
      refine aP 2 (elemPtr (some ⟨b81, 0, none⟩) (x105.toNat * 1)) rfl (pr_indexArr (e := 3) (kk := .i64) (n := 8) (by kernel_rfl) (by kernel_rfl) (by kernel_rfl) (by kernel_rfl) c114 c113) hs.keep ?_
      refine aL 3 rfl hs.keep ((OwnB.mk (I := No) (hs0.g d0).1 (fun x => x)).arrCell (i := x105) hl106 c114 c113) (nmL hs0 d0) ?_
      refine aRun [4] 6 hs.keep ?_
      refine aP 5 (elemPtr (some ⟨b26, 0, none⟩) (x105.toNat * 1)) rfl (pr_indexArr (e := 3) (kk := .i64) (n := 8) (by kernel_rfl) (by kernel_rfl) (by kernel_rfl) (by kernel_rfl) c114 c113) hs.keep ?_
      refine aL 6 rfl hs.keep ((OwnB.mk (I := No) (hs0.g d1).1 (fun x => x)).arrCell (i := x105) hl21 c114 c113) (nmL hs0 d1) ?_
      refine aRun [7, 8] 2 hs.keep ?_
      refine aP 9 (elemPtr (some ⟨b81, 0, none⟩) (x105.toNat * 1)) rfl (pr_indexArr (e := 3) (kk := .i64) (n := 8) (by kernel_rfl) (by kernel_rfl) (by kernel_rfl) (by kernel_rfl) c114 c113) hs.keep ?_
      replace hs := hs.pk .n
      replace hs := bk0 hs ct0 rfl
      refine aOL 10 rfl (sA (hs.f d2) (Int.tmod (w64 ((at_ x107 x105) + (at_ x0 x105))) 4294967296) hl106 c114 c113 ?_)
      intro h hs
      refine aEnd ?_
      refine st 6 [] ?_
      exact k_endL ⟨k, Nat.lt_succ_self _, (w64 (x105 + 1)), (x107.set x105.toNat (Int.tmod (w64 ((at_ x107 x105) + (at_ x0 x105))) 4294967296)), I, H, ⟨by kernel_rfl, by kernel_rfl, by kernel_rfl, by kernel_rfl, trivial⟩, (len_set hl106), hs.pk (.c d1 (.c d1 (.c d0 .n)))⟩
     ·refine st 2 [false] ?_
      refine k_out rfl ?_
      obtain rfl := Option.some.inj H
      exact xE ⟨x107, I, rfl, ⟨by kernel_rfl, by kernel_rfl, trivial⟩, hl106, hs.pk (.c d1 (.c d1 .n))⟩
   ·rintro ρ h ⟨x110, I, rfl, hf, hl109, hs⟩
    have H := HR111
    try dsimp only at H
    refine k_fits _ hf ?_ rfl
    refine st 2 [] (k_op (lG ((hs.bl d1).arrSeg hl109) ?_))
    refine k_op (sAN (l2 := x110) hs (List.length_replicate (n := 8) (a := (0 : Int))) hl109 ?_)
    intro h hs
    refine st 1 [] ?_
    refine k_retQ ?_
    obtain rfl := Option.some.inj H
    exact ⟨[.agg (List.map (Value.int .i64) x110).toArray], (.cons (.agg (by kernel_rfl) (by kernel_rfl) (by kernel_rfl) ((hs.bl d0).arrSeg hl109)) .nil), I, _, ⟨rfl, rfl, hl109⟩, hs.pk .n⟩

end Go.Proofs.Ytooaghempnlclaa.Sx
