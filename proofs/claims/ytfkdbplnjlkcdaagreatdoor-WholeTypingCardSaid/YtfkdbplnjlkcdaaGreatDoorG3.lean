import Derived.Test.YtfkdbplnjlkcdaaGreatDoorProg
import Derived.Test.YtfkdbplnjlkcdaaGreatDoorV4
import Derived.Test.YtfkdbplnjlkcdaaGreatDoorV5
import Derived.Test.YtfkdbplnjlkcdaaGreatDoorVF
import Derived.Test.YtfkdbplnjlkcdaaGreatDoorV6
import Derived.Test.YtfkdbplnjlkcdaaGreatDoorV7
import Derived.Test.YtfkdbplnjlkcdaaGreatDoorV9
import Derived.Test.YtfkdbplnjlkcdaaGreatDoorVD
import Derived.Test.YtfkdbplnjlkcdaaGreatDoorVC
import Derived.Test.YtfkdbplnjlkcdaaGreatDoorG0
import Derived.Test.YtfkdbplnjlkcdaaGreatDoorG2
namespace Go.Proofs.YtfkdbplnjlkcdaaGreatDoor.Sx
open Go
set_option maxRecDepth 100000
set_option maxHeartbeats 4000000
def slices_Insert_byte.m (x0 : List (List Int)) (i : Int) (x2 : List (List Int)) : Option (List (List Int)) := ins0 x0 i x2
theorem slices_Insert_byte.calls {B I : Gh} {h : Heap} {x0 x2 : List (List Int)} {i : Int} {a1 a2 : Option Addr} {p1 p2 n1 n2 : Nat} {r : List (List Int)} (H : slices_Insert_byte.m x0 i x2 = some r) :
    Fc Tryz.prog 207 #[.slice a1 n1 p1, .int .i64 i, .slice a2 n2 p2] [rO (tSl (tInt .u8)) .i a1 p1 n1 x0, rO (tSl (tInt .u8)) .i a2 p2 n2 x2] B I h (fun v L => ∃ (a : Option Addr) (p n : Nat), v = .slice a n p ∧ L = [rO (tSl (tInt .u8)) .i a p n r]) := by
  refine fc_of fun E hs => ?_
  unfold slices_Insert_byte.m ins0 at H
  obtain ⟨rfl, H1⟩ := guard_pos H
  clear H
  obtain ⟨hl2, H⟩ := guard_pos H1
  clear H1
  obtain ⟨y, rfl⟩ : ∃ y, x2 = [y] := by
    match x2, hl2 with
    | [y], _ => exact ⟨y, rfl⟩
  obtain rfl := hs.nO d0
  obtain rfl := hs.nO d1
  cases x0 with
  | nil =>
    refine fn_of (args := [.slice a1 ([] : List (List Int)).length p1, .int .i64 0, .slice a2 [y].length p2]) (rs := [.tmp 6]) (N := 95) Tryz.func207 rfl rfl rfl rfl ?_
    refine st 8 [] (k_val (.slice (slA a1 p1 (0 : Int).toNat 1) (sub ([] : List (List Int)) 0 (([] : List (List Int)).length : Int)).length (p1 - (0 : Int).toNat)) (pSl (e := 23) (k1 := .i64) (hs.sO d0) (Int.le_refl 0) (by simp) (Int.le_refl _)) ?_)
    refine st 33 [false, true] (k_op (aO (e := 23) (bytes := 24) hs (hs.sO d1) (r := [y]) (by simp [app, Lim]) ?_))
    intro a p h hs
    refine st 2 [] ?_
    refine k_retQ ?_
    have hr := (app_some H).2
    rw [List.append_nil] at hr
    subst hr
    exact ⟨_, by kernel_rfl, I, _, ⟨a, p, _, rfl, rfl⟩, hs.pk (.c d0 .n)⟩
  | cons z zs =>
    have hg0 := hs.g d0
    have hg1 := hs.g d1
    have hle := hg0.1.1.le
    have hle2 := hg1.1.1.le
    simp only [List.length_cons, List.length_nil] at hle hle2
    obtain ⟨⟨b, o, sp⟩, rfl⟩ : ∃ ad, a1 = some ad := by
      cases a1 with
      | none => have := (hg0.1.1.nil rfl).1; cases this
      | some ad => exact ⟨ad, rfl⟩
    obtain ⟨⟨b2, o2, sp2⟩, rfl⟩ : ∃ ad, a2 = some ad := by
      cases a2 with
      | none => have := (hg1.1.1.nil rfl).1; cases this
      | some ad => exact ⟨ad, rfl⟩
    obtain ⟨hsp, c0, t0, hb0, hf0⟩ := hg0.1.2.ow _ rfl
    obtain ⟨hsp2, c2, t2, hb2, hf2⟩ := hg1.1.2.ow _ rfl
    obtain rfl : sp = none := hsp
    obtain rfl : sp2 = none := hsp2
    simp only at hb0 hb2 hf0 hf2
    have hf0' : o + p1 ≤ c0.size := by simpa [tSl] using hf0
    have hne : b2 ≠ b := fun e => hs.sep.1.2.2 b ⟨_, rfl, rfl⟩ (.inl ⟨_, rfl, e⟩)
    obtain ⟨hlim, hr⟩ := app_some H
    subst hr
    have hlim2 : zs.length + 2 ≤ 1099511627776 := by unfold Lim at hlim; simp only [List.length_cons, List.length_nil] at hlim; omega
    clear hlim
    have hw : w64 ((((z :: zs).length : Nat) : Int) + ((([y] : List (List Int)).length : Nat) : Int)) = ((zs.length + 2 : Nat) : Int) := by
      simp only [List.length_cons, List.length_nil]
      rw [w64, IntKind.wrap_i64]; omega
    refine fn_of (args := [.slice (some ⟨b, o, none⟩) (z :: zs).length p1, .int .i64 0, .slice (some ⟨b2, o2, none⟩) [y].length p2]) (rs := [.tmp 6]) (N := 95) Tryz.func207 rfl rfl rfl rfl ?_
    refine st 8 [] (k_val (.slice (some ⟨b, o + 0, none⟩) ((z :: zs).length - 0) (p1 - 0)) (pXl (e := 23) (k1 := .i64) 0 (by simp) (by simpa using hle) (by omega)) ?_)
    have H0 : (if w64 ((((z :: zs).length : Nat) : Int) + ((([y] : List (List Int)).length : Nat) : Int)) > (p1 : Int) then some () else some ()) = some () := by split <;> rfl
    refine st 38 [false, false] (k_ite H0 (fun c H0 => ?_) (fun c H0 => ?_))
    · clear H0
      have hk : p1 < zs.length + 2 := by rw [hw] at c; omega
      have hrz : (tSl (tInt .u8)).rep ((Cl.i).G E.B I) h [.slice none 0 0] ([] : List Int) := ⟨none, 0, 0, rfl, rd_nil _ _ _, rfl⟩
      refine st 6 [true] (k_val (.slice (some ⟨b, o, none⟩) 0 p1) (pXh (e := 23) (k2 := .i64) (n := (z :: zs).length) 0 (by omega) (by omega)) ?_)
      refine st 4 [] (k_val (.int .i64 ((zs.length + 2 : Nat) : Int)) (pr_eq (v := .int .i64 (w64 (w64 ((((z :: zs).length : Nat) : Int) + ((([y] : List (List Int)).length : Nat) : Int)) - 0))) (by kernel_rfl) ?_) ?_)
      · rw [hw, w64, IntKind.wrap_i64]; exact congrArg (Value.int .i64) (by omega)
      have hfit : Builtin.nextslicecap (0 + (zs.length + 2)) p1 * 24 ≤ 281474976710656 := growslice_fits (need := 0 + (zs.length + 2)) (old := p1) (bytes := 24) (by omega) (by omega)
      refine k_op (owp_appendZ (e := 23) (T := tSl (tInt .u8)) (G := (Cl.i).G E.B I) (I := I) (b := b) (o := o) (cap := p1) (k := zs.length + 2) (bytes := 24) (kn := .i64) ([] : List Int) (.slice none 0 0) (by kernel_rfl) (by kernel_rfl) (elemOk_of (by kernel_rfl)) (by kernel_rfl) rfl hs.bd hs.bdG hrz hk hfit
        (by omega) (by omega) (by kernel_rfl) (by kernel_rfl) ?_)
      intro b3 p3 h3 hb3 hp3 ho3
      have hs := own_new (k := .i) hs hb3 hp3 ho3 (List.length_replicate (n := zs.length + 2))
      have hle3 := (hs.g d0).1.1.le
      rw [List.length_replicate] at hle3
      refine st 6 [] (k_val (.slice (some ⟨b3, 0 + 0, none⟩) (zs.length + 2 - 0) (p3 - 0)) (pXl (e := 23) (k1 := .i64) 0 (by omega) hle3 (by omega)) ?_)
      obtain ⟨cy, ty, fy, hby, _, hfy, _, ry⟩ := (hs.g d2).1.1.reps _ rfl (by omega)
      refine st 1 [] (k_op (owp_copyAt (e := 23) (T := tSl (tInt .u8)) (G := (Cl.i).G E.B I) (I := I) (b := b3) (o := 0) (b2 := b2) (o2 := o2) (cap := p3) (dn := zs.length + 2 - 0) (dc := p3 - 0) (sn := 1) (sc := p2) (p := 0) (l := List.replicate (zs.length + 2) []) (m := [y]) (cs := Sx.seg cy o2 (([y] : List (List Int)).length * (tSl (tInt .u8)).size))
        (by kernel_rfl) (by kernel_rfl) rfl hs.bd hs.bdG (hs.ow d0) (hs.notG d0 _ ⟨_, rfl, rfl⟩) ry (fun w hw => cells_at (by rw [hw]; exact hby)) (by simp) (by simp only [List.length_cons, List.length_nil]; omega)
        (by simp only [List.length_cons, List.length_nil]; simp only [Nat.min_def]; split <;> omega) (by kernel_rfl) (by kernel_rfl) ?_))
      intro h4 hp4 ho4
      have e4 : List.take 0 (List.replicate (zs.length + 2) ([] : List Int)) ++ [y] ++ List.drop (0 + ([y] : List (List Int)).length) (List.replicate (zs.length + 2) []) = y :: List.replicate (zs.length + 1) [] := by simp [List.drop_replicate]
      rw [e4] at ho4
      have hs := own_upd hs hp4 ho4 (n2 := zs.length + 2) (by simp) (fun _ y => .inl y)
      refine st 2 [] ?_
      obtain ⟨hs0, bk0⟩ := hs.call tk3 .n
      have hs := hs0
      refine k_regD hs0 8 ?_
      refine aRun [0, 1, 2, 3] 5 hs.keep ?_
      refine aP 4 (.slice (some ⟨b3, 0 + 1, none⟩) (zs.length + 2 - 1) (p3 - 1)) rfl (pXl (e := 23) (k1 := .i64) 1 (by omega) hle3 (by omega)) hs.keep ?_
      refine aRun [5, 6] 2 hs.keep ?_
      refine aP 7 (.slice (some ⟨b, o + 0, none⟩) ((z :: zs).length - 0) (p1 - 0)) rfl (pXl (e := 23) (k1 := .i64) 0 (by omega) (by simp only [List.length_cons]; omega) (by omega)) hs.keep ?_
      replace hs := bk0 hs ct3 rfl
      obtain ⟨cz, tz, fz, hbz, _, hfz, _, rz⟩ := (hs.g d1).1.1.reps _ rfl (by omega)
      refine aOL 8 rfl (owp_copyAt (e := 23) (T := tSl (tInt .u8)) (G := (Cl.i).G E.B I) (I := I) (b := b3) (o := 0) (b2 := b) (o2 := o + 0) (cap := p3) (dn := zs.length + 2 - 1) (dc := p3 - 1) (sn := (z :: zs).length - 0) (sc := p1 - 0) (p := 1) (l := y :: List.replicate (zs.length + 1) []) (m := z :: zs) (cs := Sx.seg cz o ((z :: zs).length * (tSl (tInt .u8)).size))
        (by kernel_rfl) (by kernel_rfl) rfl hs.bd hs.bdG (hs.ow d0) (hs.notG d0 _ ⟨_, rfl, rfl⟩) rz (fun w hw => cells_at (by rw [hw]; exact hbz)) (by simp) (by simp only [List.length_cons]; omega)
        (by simp only [List.length_cons, Nat.min_def]; split <;> omega) (by kernel_rfl) (by kernel_rfl) ?_)
      intro h5 hp5 ho5
      have e5 : List.take 1 (y :: List.replicate (zs.length + 1) ([] : List Int)) ++ (z :: zs) ++ List.drop (1 + (z :: zs).length) (y :: List.replicate (zs.length + 1) []) = y :: z :: zs := by
        rw [List.drop_eq_nil_of_le (by simp; omega)]; simp
      rw [e5] at ho5
      have hs := own_upd hs hp5 ho5 (n2 := zs.length + 2) (by simp) (fun _ y => .inl y)
      refine aEnd ?_
      refine st 5 [] ?_
      refine k_retQ ?_
      exact ⟨_, by kernel_rfl, I, _, ⟨some ⟨b3, 0, none⟩, p3, zs.length + 2, rfl, rfl⟩, hs.pk (.c d0 .n)⟩
    · clear H0
      have hk : zs.length + 2 ≤ p1 := by rw [hw] at c; omega
      refine st 8 [false] (k_val (.int .i64 ((zs.length + 2 : Nat) : Int)) (pr_eq (v := .int .i64 (w64 ((((z :: zs).length : Nat) : Int) + ((([y] : List (List Int)).length : Nat) : Int)))) (by kernel_rfl) (by rw [hw])) ?_)
      refine k_val (.slice (some ⟨b, o, none⟩) (zs.length + 2) p1) (pXh (e := 23) (k2 := .i64) (n := (z :: zs).length) (zs.length + 2) hk (by omega)) ?_
      refine st 10 [] (k_val (.slice (some ⟨b, o + 1, none⟩) (zs.length + 2 - 1) (p1 - 1)) (pXl (e := 23) (k1 := .i64) 1 (by omega) hk (by omega)) ?_)
      refine k_op (owp_ovl (tS := 54) (tR := 4) (e := 23) (size := 1) (a := ⟨b2, o2, none⟩) (b := ⟨b, o + 1, none⟩) (la := 1) (ca := p2) (lb := zs.length + 2 - 1) (cb := p1 - 1) Tryz.func219 (by kernel_rfl) (by kernel_rfl) (by kernel_rfl) (by kernel_rfl) (by kernel_rfl) (by kernel_rfl) hne hb2 hb0 (by omega) (by kernel_rfl) (by kernel_rfl) ?_)
      refine st 4 [true] ?_
      obtain ⟨hs0, bk0⟩ := hs.call tk2 .n
      have hs := hs0
      refine k_regD hs0 8 ?_
      refine aRun [0, 1, 2, 3] 5 hs.keep ?_
      refine aP 4 (.slice (some ⟨b, o + 1, none⟩) (zs.length + 2 - 1) (p1 - 1)) rfl (pXl (e := 23) (k1 := .i64) 1 (by omega) hk (by omega)) hs.keep ?_
      refine aRun [5, 6] 2 hs.keep ?_
      refine aP 7 (.slice (some ⟨b, o + 0, none⟩) (zs.length + 2 - 0) (p1 - 0)) rfl (pXl (e := 23) (k1 := .i64) 0 (by omega) hk (by omega)) hs.keep ?_
      replace hs := bk0 hs ct2 rfl
      obtain ⟨cz, tz, fz, hbz, _, hfz, _, rz⟩ := (hs.g d0).1.1.reps _ rfl (by omega)
      refine aOL 8 rfl (owp_copyAt (e := 23) (T := tSl (tInt .u8)) (G := (Cl.i).G E.B I) (I := I) (b := b) (o := o) (b2 := b) (o2 := o + 0) (cap := p1) (dn := zs.length + 2 - 1) (dc := p1 - 1) (sn := zs.length + 2 - 0) (sc := p1 - 0) (p := 1) (l := z :: zs) (m := z :: zs) (cs := Sx.seg cz o ((z :: zs).length * (tSl (tInt .u8)).size))
        (by kernel_rfl) (by kernel_rfl) rfl hs.bd hs.bdG (hs.ow d0) (hs.notG d0 _ ⟨_, rfl, rfl⟩) rz (fun w hw => cells_at (by rw [hw]; exact hbz)) (by simp) (by simp only [List.length_cons]; omega)
        (by simp only [List.length_cons, Nat.min_def]; split <;> omega) (by kernel_rfl) (by kernel_rfl) ?_)
      intro h5 hp5 ho5
      have e5 : List.take 1 (z :: zs) ++ (z :: zs) ++ List.drop (1 + (z :: zs).length) (z :: zs) = z :: z :: zs := by
        rw [List.drop_eq_nil_of_le (by simp)]; simp
      rw [e5] at ho5
      have hs := own_upd hs hp5 ho5 (n2 := zs.length + 2) (by simp) (fun _ y => .inl y)
      refine aEnd ?_
      refine st 4 [] (k_val (.slice (some ⟨b, o + 0, none⟩) (zs.length + 2 - 0) (p1 - 0)) (pXl (e := 23) (k1 := .i64) 0 (by omega) hk (by omega)) ?_)
      obtain ⟨cy, ty, fy, hby, _, hfy, _, ry⟩ := (hs.g d1).1.1.reps _ rfl (by omega)
      refine st 1 [] (k_op (owp_copyAt (e := 23) (T := tSl (tInt .u8)) (G := (Cl.i).G E.B I) (I := I) (b := b) (o := o) (b2 := b2) (o2 := o2) (cap := p1) (dn := zs.length + 2 - 0) (dc := p1 - 0) (sn := 1) (sc := p2) (p := 0) (l := z :: z :: zs) (m := [y]) (cs := Sx.seg cy o2 (([y] : List (List Int)).length * (tSl (tInt .u8)).size))
        (by kernel_rfl) (by kernel_rfl) rfl hs.bd hs.bdG (hs.ow d0) (hs.notG d0 _ ⟨_, rfl, rfl⟩) ry (fun w hw => cells_at (by rw [hw]; exact hby)) (by simp) (by simp only [List.length_cons, List.length_nil]; omega)
        (by simp only [List.length_cons, List.length_nil]; simp only [Nat.min_def]; split <;> omega) (by kernel_rfl) (by kernel_rfl) ?_))
      intro h6 hp6 ho6
      have e6 : List.take 0 (z :: z :: zs) ++ [y] ++ List.drop (0 + ([y] : List (List Int)).length) (z :: z :: zs) = y :: z :: zs := rfl
      rw [e6] at ho6
      have hs := own_upd hs hp6 ho6 (n2 := zs.length + 2) (by simp) (fun _ y => .inl y)
      refine st 6 [] ?_
      refine k_retQ ?_
      exact ⟨_, by kernel_rfl, I, _, ⟨some ⟨b, o, none⟩, p1, zs.length + 2, rfl, rfl⟩, hs.pk (.c d0 .n)⟩
def mac_Code.m (K : Nat) (x0 : (List Int)) (x1 : (List (List Int))) : Option (List Int) :=
  ((slices_Clone_byte.m x1).bind fun t0 => ((mac_turned.m K x0 54).bind fun t1 => ((slices_Insert_byte.m t0 0 [t1]).bind fun t2 => ((hash_Of.m K t2).bind fun t3 => ((mac_turned.m K x0 92).bind fun t4 => ((hash_Of.m K [t4, t3]).bind fun t5 => (some t5)))))))
theorem mac_Code.calls {B I : Gh} {h : Heap} {K : Nat} {x0 : (List Int)} {x1 : (List (List Int))} {a0 : Option Addr} {p0 : Nat} {n0 : Nat} {a1 : Option Addr} {p1 : Nat} {n1 : Nat} {r : (List Int)} (H : mac_Code.m K x0 x1 = some r)  :
    Fc Tryz.prog 192 #[.slice a0 n0 p0, .slice a1 n1 p1] [rR (tInt .u8) .b a0 p0 n0 x0, rP (tSl (tInt .u8)) a1 p1 n1 x1] B I h (fun v L => v = .agg (List.map (Value.int .u8) r).toArray ∧ L = [] ∧ List.length r = 32) := by
 refine fc_of fun E hs => ?_;unfold mac_Code.m at H;cases hs.nR d0;cases hs.nP d1;refine fn_of2 (rs := [.cell 4 300]) (N := 18) Tryz.func192 rfl rfl rfl rfl ?_;refine st 2 [] (k_op (nA hs (List.map (Value.int .u8) (List.replicate 32 (0 : Int))) (.agg (List.map (Value.int .u8) (List.replicate 32 (0 : Int))).toArray) ?_));intro b1 h hs;obtain ⟨hk, bk⟩ := hs.call tk0 (.c (qMM d2) .n);refine st 4 [] (k_call H (fun _ m => slices_Clone_byte.calls m hk) ?_);rintro t4 _ h H ⟨I, _, ⟨a4, p4, n2, rfl, rfl⟩, hk⟩;replace hs := bk hk ct1 rfl;cases hs.nO d0;obtain ⟨hk, bk⟩ := hs.call tk0 (.c (qB d2) .n);refine st 1 [] (k_call H (fun _ m => mac_turned.calls m hk) ?_);rintro t0 _ h H ⟨I, _, ⟨a2, p2, n3, rfl, rfl⟩, hk⟩;replace hs := bk hk ct1 rfl;cases hs.nO d0;obtain ⟨I, hs⟩ := hs.fO;refine k_op (nS (e := 23) hs .i (tSl (tInt .u8)) ([t0] : List (List Int)) [.slice a2 t0.length p2] 1 (.slice none 0 0) (Reps.cons (T := (tSl (tInt .u8))) (c := [.slice a2 t0.length p2]) (x := t0) ⟨_, _, _, rfl, (hs.g d0)⟩ (.nil : Reps (tSl (tInt .u8)) (Cl.G .i E.B I) h [] [])) ?_);intro b2 h hs;obtain ⟨hk, bk⟩ := (hs.f d2).call tk2 .n;refine k_call H (fun _ m => slices_Insert_byte.calls m hk) ?_;rintro t5 _ h H ⟨I, _, ⟨a5, p5, n4, rfl, rfl⟩, hk⟩;replace hs := bk hk ct1 rfl;cases hs.nO d0;obtain ⟨hk, bk⟩ := hs.call tk0 (.c (qO d0) .n);refine k_call H (fun _ m => hash_Of.calls m hk) ?_;rintro t2 _ h H ⟨I, _, ⟨rfl, rfl, hl1⟩, hk⟩;replace hs := bk hk ct0 rfl;refine k_op (nA hs (List.map (Value.int .u8) (List.replicate 32 (0 : Int))) (.agg (List.map (Value.int .u8) (List.replicate 32 (0 : Int))).toArray) ?_);intro b0 h hs;refine k_op (sAN (l2 := t2) hs (List.length_replicate (n := 32) (a := (0 : Int))) hl1 ?_);intro h hs;refine st 2 [] ?_;obtain ⟨I, hs⟩ := hs.fA hl1;obtain ⟨hs0, bk0⟩ := hs.call tk0 (.c (qK d0) (.c (qB d4) .n));have hs := hs0;refine k_regD hs0 5 ?_;refine aRun [0, 2] 4 hs.keep ?_;obtain ⟨hk, bk⟩ := hs.call tk0 (.c (qB d1) .n);refine aO1 1 rfl (o_call H (fun _ m => mac_turned.calls m hk) ?_);rintro t1 _ h H ⟨I, _, ⟨a3, p3, n5, rfl, rfl⟩, hk⟩;replace hs := bk hk ct1 rfl;cases hs.nO d0;refine ⟨hs.keep, ?_⟩;obtain ⟨I, hs⟩ := hs.fO;refine aO1 3 rfl (nS (e := 23) hs .i (tSl (tInt .u8)) ([t1, t2] : List (List Int)) [.slice a3 t1.length p3, .slice (sa b0) 32 32] 1 (.slice none 0 0) (Reps.cons (T := (tSl (tInt .u8))) (c := [.slice a3 t1.length p3]) (x := t1) ⟨_, _, _, rfl, (hs.g d0)⟩ (Reps.cons (T := (tSl (tInt .u8))) (c := [.slice (sa b0) 32 32]) (x := t2) ⟨_, _, _, rfl, (hs.g d1)⟩ (.nil : Reps (tSl (tInt .u8)) (Cl.G .i E.B I) h [] []))) ?_);intro b3 h hs;refine ⟨hs.keep, ?_⟩;obtain ⟨hk, bk⟩ := hs.call tk0 (.c (qO d0) .n);refine aO1 4 rfl (o_call H (fun _ m => hash_Of.calls m hk) ?_);rintro t3 _ h H ⟨I, _, ⟨rfl, rfl, hl0⟩, hk⟩;replace hs := bk hk ct0 rfl;refine ⟨hs.keep, ?_⟩;replace hs := hs.pk (.c d0 (.c d0 .n));replace hs := bk0 hs ct2 rfl;refine aOL 5 rfl (sAN (l2 := t3) (hs.f d5) (List.length_replicate (n := 32) (a := (0 : Int))) hl0 ?_);intro h hs;refine aEnd ?_;obtain rfl := si H;exact k_retQ ⟨[.agg (List.map (Value.int .u8) t3).toArray], (.cons (.agg (by kernel_rfl) (by kernel_rfl) (by kernel_rfl) ((hs.bl d0).arrSeg hl0)) .nil), I, _, ⟨rfl, rfl, hl0⟩, hs.pk .n⟩
def mac_Tag.m (K : Nat) (x0 : (List Int)) (x1 : (List (List Int))) : Option (List Int) :=
  ((mac_Code.m K x0 x1).bind fun t0 => (some (sub t0 0 16)))
theorem mac_Tag.calls {B I : Gh} {h : Heap} {K : Nat} {x0 : (List Int)} {x1 : (List (List Int))} {a0 : Option Addr} {p0 : Nat} {n0 : Nat} {a1 : Option Addr} {p1 : Nat} {n1 : Nat} {r : (List Int)} (H : mac_Tag.m K x0 x1 = some r)  :
    Fc Tryz.prog 175 #[.slice a0 n0 p0, .slice a1 n1 p1] [rR (tInt .u8) .b a0 p0 n0 x0, rP (tSl (tInt .u8)) a1 p1 n1 x1] B I h (fun v L => v = .agg (List.map (Value.int .u8) r).toArray ∧ L = [] ∧ List.length r = 16) := by
 refine fc_of fun E hs => ?_;unfold mac_Tag.m at H;cases hs.nR d0;cases hs.nP d1;refine fn_of2 (rs := [.cell 4 276]) (N := 12) Tryz.func175 rfl rfl rfl rfl ?_;refine st 2 [] (k_op (nA hs (List.map (Value.int .u8) (List.replicate 16 (0 : Int))) (.agg (List.map (Value.int .u8) (List.replicate 16 (0 : Int))).toArray) ?_));intro b1 h hs;obtain ⟨hk, bk⟩ := hs.call tk0 (.c (qB d1) (.c (qMM d2) .n));refine st 5 [] (k_call H (fun _ m => mac_Code.calls m hk) ?_);rintro t0 _ h H ⟨I, _, ⟨rfl, rfl, hl0⟩, hk⟩;replace hs := bk hk ct0 rfl;refine k_op (nA hs (List.map (Value.int .u8) (List.replicate 32 (0 : Int))) (.agg (List.map (Value.int .u8) (List.replicate 32 (0 : Int))).toArray) ?_);intro b0 h hs;refine k_op (sAN (l2 := t0) hs (List.length_replicate (n := 32) (a := (0 : Int))) hl0 ?_);intro h hs;obtain ⟨I, hs⟩ := hs.fA hl0;replace hs := hs.part d0 (lo := 0) (hi := 16) (Int.le_refl 0) (by decide) (by rw [hl0]; decide);refine st 3 [] (k_val (.slice (slA (sa b0) 32 (Int.toNat (0 : Int)) 1) ((sub t0 0 16).length) (32 - Int.toNat (0 : Int))) (pSA (lo := 0) (hi := 16) 16 (by rw [hl0]; decide)) ?_);refine k_val (elemPtr (slA (sa b0) 32 (Int.toNat (0 : Int)) 1) 0) (pAP (m := 16) (et := 5) (hs.sR d0) (sub_len (lo := 0) (hi := 16) 16 (by rw [hl0]; decide)) (by decide)) ?_;refine k_op (lG ((hs.sR d0).segInt (sub_len (lo := 0) (hi := 16) 16 (by rw [hl0]; decide)) (by decide)) ?_);refine k_op (sAN (l2 := (sub t0 0 16)) (hs.f d2) (List.length_replicate (n := 16) (a := (0 : Int))) (sub_len (lo := 0) (hi := 16) 16 (by rw [hl0]; decide)) ?_);intro h hs;obtain rfl := si H;exact st 1 [] (k_retQ ⟨[.agg (List.map (Value.int .u8) (sub t0 0 16)).toArray], (.cons (.agg (by kernel_rfl) (by kernel_rfl) (by kernel_rfl) ((hs.bl d0).arrSeg (sub_len (lo := 0) (hi := 16) 16 (by rw [hl0]; decide)))) .nil), I, _, ⟨rfl, rfl, (sub_len (lo := 0) (hi := 16) 16 (by rw [hl0]; decide))⟩, hs.pk .n⟩)
def frame_Seal.l1.m (K : Nat) (x1 : api_Frame) : Nat → (List Int) → Int → Option ((List Int))
  | 0, _, _ => none
  | k + 1, x2, x0 => (letJ (α := Bool → Option ((List Int))) (fun x3 => (bif x3 then (if 0 ≤ (w64 (56 - (w64 (8 * x0)))) then ((app x2 [(IntKind.u8.wrap ((shr .i64 x1.Seq (w64 (56 - (w64 (8 * x0)))))))]).bind fun l0 => (frame_Seal.l1.m K x1 k l0 (w64 (x0 + 1)))) else none) else (some (x2)))) fun j0 => (if x0 < 8 then (j0 true) else (j0 false)))
def frame_Seal.m (K : Nat) (x1 : (List Int)) (x0 : api_Frame) : Option ((List Int) × GoErr) :=
  ((frame_sided.m x0.Dir).bind fun t0 => bif t0 then ((frame_numbered.m x0.Seq).bind fun t1 => bif t1 then (if (x0.Body.length : Int) > 486 then none else ((frame_Seal.l1.m K x0 K [1, (IntKind.u8.wrap (x0.Dir))] 0).bind fun x2 => ((app x2 x0.Body).bind fun l0 => ((mac_Tag.m K x1 [l0]).bind fun t2 => ((app l0 t2).bind fun l1 => (some (l1, GoErr.nil))))))) else none) else none)
theorem frame_Seal.calls {B I : Gh} {h : Heap} {K : Nat} {x3 : (List Int)} {x0 : api_Frame} {a0 : Option Addr} {p0 : Nat} {n2 : Nat} {a2 : Option Addr} {p2 : Nat} {n3 : Nat} {r : ((List Int) × GoErr)} (H : frame_Seal.m K x3 x0 = some r)  :
    Fc Tryz.prog 152 #[.slice a0 n2 p0, .agg #[iv x0.Dir, iv x0.Seq, .slice a2 n3 p2]] [rR (tInt .u8) .b a0 p0 n2 x3, rR (tInt .u8) .b a2 p2 n3 x0.Body] B I h (fun v L => ∃ a5 p4 n4 v0, v = .tuple #[.slice a5 n4 p4, v0] ∧ L = [rO (tInt .u8) .i a5 p4 n4 r.1, rE .i v0 r.2]) := by
 refine fc_of fun E hs => ?_;unfold frame_Seal.m at H;cases hs.nR d0;cases hs.nR d1;refine fn_of (rs := [.tmp 4, .tmp 5]) (N := 56) Tryz.func152 rfl rfl rfl rfl ?_;refine st 2 [] (k_op (nB hs [iv x0.Dir, iv x0.Seq, .slice a2 x0.Body.length p2] ?_));intro b0 h hs;refine st 8 [] (k_op (lB (hs.bl d0) 0 rfl ?_));refine k_call H (fun _ m => frame_sided.calls m) ?_;rintro t0 _ _ H ⟨rfl, rfl⟩;cases t0
 ·rw [cond_false] at H;cases H
 rw [cond_true] at H;refine st 3 [] (k_op (lB (hs.bl d0) 1 rfl ?_));refine k_call H (fun _ m => frame_numbered.calls m) ?_;rintro t1 _ _ H ⟨rfl, rfl⟩;cases t1
 ·rw [cond_false] at H;cases H
 rw [cond_true] at H;refine st 8 [false] (k_op (lB (hs.bl d0) 2 rfl ?_));refine st 1 [] (k_ite H (fun c0 H => ?_) (fun c0 H => ?_))
 ·cases H
 refine st 8 [false] (k_op (lB (hs.bl d0) 0 rfl ?_));refine st 1 [] (k_op (nS (e := 5) hs .i (tInt .u8) ([1, (IntKind.u8.wrap (x0.Dir))] : List Int) [.int .u8 1, .int .u8 (IntKind.u8.wrap (x0.Dir))] 1 (.int .u8 0) (Reps.int (I := (Cl.G .i E.B I)) (k := .u8) (l := [1, (IntKind.u8.wrap (x0.Dir))])) ?_));intro b1 h hs;refine st 8 [] ?_;obtain ⟨s0, m0, HR0⟩ := bind_some H;refine k_loopT hs tl1 1 (fun T k' ρ h => ∃ (x2 : List Int) (x1 : Int), ∃ a1 p1 n0 I, frame_Seal.l1.m K x0 k' x2 x1 = some s0 ∧ Fits [(0, .slice a0 x3.length p0), (3, pv b0), (6, .slice a1 n0 p1), (31, iv x1)] ρ ∧ St E (rO (tInt .u8) .i a1 p1 n0 x2 :: T) I h) (fun T ρ h => ∃ (x4 : List Int), ∃ a3 p3 n1 I, x4 = s0 ∧ Fits [(0, .slice a0 x3.length p0), (3, pv b0), (6, .slice a3 n1 p3)] ρ ∧ St E (rO (tInt .u8) .i a3 p3 n1 x4 :: T) I h) K ⟨[1, (IntKind.u8.wrap (x0.Dir))], 0, (sa b1), 2, 2, I, m0, ft, hs.pk (.c d0 pk0)⟩ ?_ rfl ?_;rotate_left
 ·rintro ρ h ⟨x4, a3, p3, n1, I, rfl, hf, hs⟩;have H := HR0;try dsimp only at H
  refine k_fits _ hf ?_ rfl;cases hs.nO d0;refine st 4 [] (k_op (lB (hs.bl d1) 2 rfl ?_));obtain ⟨l0, m2, H⟩ := bind_some H;refine k_op (aO (e := 5) (bytes := 1) hs ((hs.sR d3).flat flat_int) m2 ?_);intro a4 p64 h hs;have hz := hs;obtain ⟨I, hs⟩ := hs.all (.o (.d (.r (.r .n))));refine st 6 [] (k_op (nS (e := 23) hs .i (tSl (tInt .u8)) ([l0] : List (List Int)) [.slice a4 l0.length p64] 1 (.slice none 0 0) (Reps.cons (T := (tSl (tInt .u8))) (c := [.slice a4 l0.length p64]) (x := l0) ⟨_, _, _, rfl, (hs.g d0)⟩ (.nil : Reps (tSl (tInt .u8)) (Cl.G .i E.B I) h [] [])) ?_));intro b3 h hs;obtain ⟨hk, bk⟩ := hs.call tk0 (.c (qI d2) (.c (qMO d0) .n));refine k_call H (fun _ m => mac_Tag.calls m hk) ?_;rintro t2 _ h H ⟨I, _, ⟨rfl, rfl, hl0⟩, hk⟩;replace hs := bk hk ct0 rfl;obtain ⟨I, hs⟩ : ∃ I, St E _ I _ := ⟨_, hz.back hs⟩;refine k_op (nA hs (List.map (Value.int .u8) (List.replicate 16 (0 : Int))) (.agg (List.map (Value.int .u8) (List.replicate 16 (0 : Int))).toArray) ?_);intro b4 h hs;refine k_op (sAN (l2 := t2) hs (List.length_replicate (n := 16) (a := (0 : Int))) hl0 ?_);intro h hs;obtain ⟨I, hs⟩ := hs.fA hl0;replace hs := (hs.f d1);obtain ⟨l3, m3, H⟩ := bind_some H;refine st 5 [] (k_op (aO (e := 5) (bytes := 1) hs (hs.sR d1) m3 ?_));intro a7 p6 h hs;obtain rfl := si H;exact st 3 [] (k_retQ ⟨_, by kernel_rfl, I, _, ⟨a7, p6, l3.length, (.nilIface), rfl, rfl⟩, hs.pk (.c d0 (.f imEN .n))⟩)
 clear HR0 m0 H;rintro k' ρ h ⟨x2, x1, a1, p1, n0, I, H, hf, hs⟩;cases k' with
 | zero => cases H
 | succ k =>
  rw [frame_Seal.l1.m] at H;refine k_fits _ hf ?_ rfl;cases hs.nO d0;refine st 1 [] (k_jF H hs (fun x5 => [(0, .slice a0 x3.length p0), (3, pv b0), (6, .slice a1 x2.length p1), (31, iv x1), (32, .bool x5)]) ?_ ?_ ?_)
  ·intro j0 H;refine st 1 [] (k_ite H (fun c1 H => ?_) (fun c1 H => ?_))
   ·exact st 1 [] (k_end ⟨true, I, H, ft, hs⟩)
   exact st 1 [] (k_end ⟨false, I, H, ft, hs⟩)
  ·intro ρ h I H hs;refine st 2 [false] (k_out rfl ?_);obtain rfl := si H;exact xE ⟨x2, a1, p1, x2.length, I, rfl, ft, hs.pk (.c d0 pk0)⟩
  intro ρ h I H hs;refine st 13 [true] (k_op (lB (hs.bl d1) 1 rfl ?_));obtain ⟨c2, H⟩ := guard_pos H;refine st 3 [] (k_val (iv (shr .i64 x0.Seq (w64 (56 - (w64 (8 * x1)))))) (pr_shr (k := .i64) (yk := .i64) (a := x0.Seq) (b := (w64 (56 - (w64 (8 * x1))))) (by kernel_rfl) (by kernel_rfl) c2) ?_);refine st 1 [] (k_op (nS (e := 5) hs .i (tInt .u8) ([(IntKind.u8.wrap ((shr .i64 x0.Seq (w64 (56 - (w64 (8 * x1)))))))] : List Int) [.int .u8 (IntKind.u8.wrap ((shr .i64 x0.Seq (w64 (56 - (w64 (8 * x1)))))))] 1 (.int .u8 0) (Reps.int (I := (Cl.G .i E.B I)) (k := .u8) (l := [(IntKind.u8.wrap ((shr .i64 x0.Seq (w64 (56 - (w64 (8 * x1)))))))])) ?_));intro b2 h hs;replace hs := (hs.f d1);obtain ⟨l1, m1, H⟩ := bind_some H;refine k_op (aO (e := 5) (bytes := 1) hs (hs.sO d1) m1 ?_);intro a6 p5 h hs;exact st 7 [] (k_endL ⟨k, Nat.lt_succ_self _, l1, (w64 (x1 + 1)), a6, p5, l1.length, I, H, ft, hs.pk (.c d0 pk1)⟩)
def line_Line_told.m (x1 : line_Line) (x0 : api_Pack) : Option (api_Pack × line_Line) :=
  ((slices_Clone_bytes.m x0.Data).bind fun t0 => (some ((⟨(w64 (x1.await' - 1)), x0.Num, x0.Last, t0⟩ : api_Pack), x1)))
theorem line_Line_told.calls {B I : Gh} {h : Heap} {x0 : line_Line} {x1 : api_Pack} {b0 : Nat} {v0 : Value} {v1 : Value} {v2 : Value} {a1 : Option Addr} {p1 : Nat} {n0 : Nat} {r : (api_Pack × line_Line)} (H : line_Line_told.m x0 x1 = some r)  :
    Fc Tryz.prog 169 #[pv b0, .agg (cl_api_Pack x1 a1 n0 p1).toArray] [rB b0 [v0, iv x0.given', iv x0.await', v1, v2, iv x0.wait', iv x0.left', .bool x0.owes'] 210, rR (tInt .u8) .b a1 p1 n0 x1.Data] B I h (fun v L => ∃ a2 p2 n1, v = .agg (cl_api_Pack r.1 a2 n1 p2).toArray ∧ L = [rO (tInt .u8) .i a2 p2 n1 r.1.Data, rB b0 [v0, iv r.2.given', iv r.2.await', v1, v2, iv r.2.wait', iv r.2.left', .bool r.2.owes'] 210]) := by
 refine fc_of fun E hs => ?_;unfold line_Line_told.m at H;cases hs.nR d1;refine fn_of2 (rs := [.cell 4 250]) (N := 16) Tryz.func169 rfl rfl rfl rfl ?_;refine st 2 [] (k_op (nB hs (cl_api_Pack x1 a1 x1.Data.length p1) ?_));intro b1 h hs;refine k_op (nA hs [iv 0, iv 0, .bool false, .slice none 0 0] (.agg #[iv 0, iv 0, .bool false, .slice none 0 0]) ?_);intro b2 h hs;refine st 6 [] (k_op (lB (hs.bl d2) 2 rfl ?_));refine st 2 [] (k_op (sB (v := iv (w64 (x0.await' - 1))) (hs.f d1) cw0 ?_));intro h hs;refine st 4 [] (k_op (lB (hs.bl d0) 3 rfl ?_));obtain ⟨hk, bk⟩ := hs.call tk0 (.c (qB d3) .n);refine k_call H (fun _ m => slices_Clone_bytes.calls m hk) ?_;rintro t0 _ h H ⟨I, _, ⟨a0, p0, n2, rfl, rfl⟩, hk⟩;replace hs := bk hk ct1 rfl;cases hs.nO d0;refine st 1 [] (k_op (sB (v := .slice a0 t0.length p0) (hs.f d1) cw3 ?_));intro h hs;refine st 3 [] (k_op (lN (hs.bl d0) 0 4 ?_));refine k_op (sN0 (hs.f d2) [iv (w64 (x0.await' - 1)), iv x1.Num, .bool x1.Last, .slice a0 t0.length p0] (ones_of rfl) ?_);intro h hs;obtain rfl := si H;exact st 1 [] (k_retQ ⟨[.agg #[iv (w64 (x0.await' - 1)), iv x1.Num, .bool x1.Last, .slice a0 t0.length p0]], (.cons (.agg (by kernel_rfl) (by kernel_rfl) (by kernel_rfl) ((hs.bl d0).seg_ 0 4 (Nat.le_of_ble_eq_true rfl))) .nil), I, _, ⟨a0, p0, t0.length, rfl, rfl⟩, hs.pk (.c d2 (.c d2 .n))⟩)
def line_Line_Tick.l1.m (K : Nat) (x0 : line_Line) : Nat → (List api_Pack) → Int → Int → Int → Int → Int → Bool → Option ((List api_Pack) × Int × Int × Int × Int × Bool)
  | 0, _, _, _, _, _, _, _ => none
  | k + 1, x2, x1, x3, x4, x5, x6, x7 => (letJ (α := Bool → Option ((List api_Pack) × Int × Int × Int × Int × Bool)) (fun x8 => (bif x8 then (if 0 ≤ x1 then (if x1 < ((sub x0.queue' 0 (mn 8 (x0.queue'.length : Int))).length : Int) then ((line_Line_told.m (⟨x0.queue', x3, x4, x0.kept', x0.coming', x5, x6, x7⟩ : line_Line) (at_ (sub x0.queue' 0 (mn 8 (x0.queue'.length : Int))) x1)).bind fun t0 => ((app x2 [t0.1]).bind fun l0 => (line_Line_Tick.l1.m K x0 k l0 (w64 (x1 + 1)) t0.2.given' t0.2.await' t0.2.wait' t0.2.left' t0.2.owes'))) else none) else none) else (some ((x2, x3, x4, x5, x6, x7))))) fun j0 => (if x1 < ((sub x0.queue' 0 (mn 8 (x0.queue'.length : Int))).length : Int) then (j0 true) else (j0 false)))
def line_Line_Tick.m (K : Nat) (x0 : line_Line) : Option ((List api_Pack) × line_Line) :=
  (letJ (α := Int → Option ((List api_Pack) × line_Line)) (fun x2 => (letJ (α := (List api_Pack) → Int → Int → Int → Int → Bool → Option ((List api_Pack) × line_Line)) (fun x1 x3 x4 x5 x6 x8 => (if (x1.length : Int) = 0 then (bif x8 then ((line_Line_told.m (⟨x0.queue', x3, x4, x0.kept', x0.coming', x5, x6, x8⟩ : line_Line) (⟨0, 0, false, []⟩ : api_Pack)).bind fun t0 => ((app x1 [t0.1]).bind fun l0 => (some (l0, (⟨x0.queue', t0.2.given', t0.2.await', x0.kept', x0.coming', t0.2.wait', t0.2.left', false⟩ : line_Line))))) else (some (x1, (⟨x0.queue', x3, x4, x0.kept', x0.coming', x5, x6, false⟩ : line_Line)))) else (some (x1, (⟨x0.queue', x3, x4, x0.kept', x0.coming', x5, x6, false⟩ : line_Line))))) fun j3 => (letJ (α := Bool → Option ((List api_Pack) × line_Line)) (fun xA => (bif xA then (if 0 ≤ (mn 8 (x0.queue'.length : Int)) then (if (mn 8 (x0.queue'.length : Int)) ≤ (x0.queue'.length : Int) then ((line_Line_Tick.l1.m K x0 K [] 0 x0.given' x0.await' x0.wait' x2 x0.owes').bind fun (xD, xF, xG, x7, xM, xH) => (j3 xD xF xG (mn (w64 (2 * x7)) 16) x7 xH)) else none) else none) else (j3 [] x0.given' x0.await' x0.wait' x2 x0.owes'))) fun j2 => (if (x0.queue'.length : Int) > 0 then (if x2 = 0 then (j2 true) else none) else (j2 false))))) fun j1 => (letJ (α := Bool → Option ((List api_Pack) × line_Line)) (fun x9 => (bif x9 then (j1 (mx 0 (w64 (x0.left' - 1)))) else (j1 x0.left'))) fun j0 => (if (x0.queue'.length : Int) > 0 then (j0 true) else (j0 false))))
theorem line_Line_Tick.calls {B I : Gh} {h : Heap} {K : Nat} {x0 : line_Line} {b0 : Nat} {a0 : Option Addr} {p0 : Nat} {n5 : Nat} {v0 : Value} {v1 : Value} {r : ((List api_Pack) × line_Line)} (H : line_Line_Tick.m K x0 = some r)  :
    Fc Tryz.prog 150 #[pv b0] [rB b0 [.slice a0 n5 p0, iv x0.given', iv x0.await', v0, v1, iv x0.wait', iv x0.left', .bool x0.owes'] 210, rO t_api_Pack .i a0 p0 n5 x0.queue'] B I h (fun v L => ∃ a4 p4 n3 a5 p5 n4, v = .slice a4 n3 p4 ∧ L = [rO t_api_Pack .i a4 p4 n3 r.1, rB b0 [.slice a5 n4 p5, iv r.2.given', iv r.2.await', v0, v1, iv r.2.wait', iv r.2.left', .bool r.2.owes'] 210, rO t_api_Pack .i a5 p5 n4 r.2.queue']) := by
 refine fc_of fun E hs => ?_;unfold line_Line_Tick.m at H;cases hs.nO d1;refine fn_of (rs := [.tmp 2]) (N := 92) Tryz.func150 rfl rfl rfl rfl ?_;refine st 9 [] ?_;obtain ⟨j0, e1, H⟩ := letJ_some H;refine k_join (fun ρ h => ∃ (x5 : Int), ∃ I, j0 x5 = some r ∧ Fits [(0, pv b0), (3, .slice none 0 0)] ρ ∧ St E [rB b0 [.slice a0 x0.queue'.length p0, iv x0.given', iv x0.await', v0, v1, iv x0.wait', iv x5, .bool x0.owes'] 210, rO t_api_Pack .i a0 p0 x0.queue'.length x0.queue'] I h) ?_ ?_
 ·refine st 1 [] (k_jF H hs (fun xT => [(0, pv b0), (3, .slice none 0 0), (11, .bool xT)]) ?_ ?_ ?_)
  ·intro j2 H;refine st 4 [] (k_op (lB (hs.bl d0) 0 rfl ?_));refine st 1 [] (k_ite H (fun c4 H => ?_) (fun c4 H => ?_))
   ·exact st 1 [] (k_end ⟨true, I, H, ft, hs⟩)
   exact st 1 [] (k_end ⟨false, I, H, ft, hs⟩)
  ·intro ρ h I H hs;exact st 2 [false] (k_end ⟨x0.left', I, H, ft, hs.pk (.c d0 (.c d0 .n))⟩)
  intro ρ h I H hs;refine st 6 [true] (k_op (lB (hs.bl d0) 6 rfl ?_));refine st 4 [] (k_op (sB (v := iv (mx 0 (w64 (x0.left' - 1)))) hs cw6 ?_));intro h hs;exact st 1 [] (k_end ⟨(mx 0 (w64 (x0.left' - 1))), I, H, ft, hs.pk (.c d0 (.c d0 .n))⟩)
 clear H;rintro ρ h ⟨x5, I, H, hf, hs⟩;refine k_fits _ hf ?_ rfl;subst e1;try dsimp only at H
 refine st 1 [] ?_;obtain ⟨j1, e0, H⟩ := letJ_some H;refine k_join (fun ρ h => ∃ (x9 : List api_Pack) (xO : Int) (xP : Int) (xQ : Int) (xR : Int) (xS : Bool), ∃ a3 p3 n2 I, j1 x9 xO xP xQ xR xS = some r ∧ Fits [(0, pv b0), (3, .slice a3 n2 p3)] ρ ∧ St E [rO t_api_Pack .i a3 p3 n2 x9, rB b0 [.slice a0 x0.queue'.length p0, iv xO, iv xP, v0, v1, iv xQ, iv xR, .bool xS] 210, rO t_api_Pack .i a0 p0 x0.queue'.length x0.queue'] I h) ?_ ?_;rotate_left
 ·clear H;rintro ρ h ⟨x9, xO, xP, xQ, xR, xS, a3, p3, n2, I, H, hf, hs⟩;refine k_fits _ hf ?_ rfl;subst e0;try dsimp only at H
  cases hs.nO d0;refine st 5 [] (k_ite H (fun c8 H => ?_) (fun c8 H => ?_));rotate_left
  ·refine st 14 [false] (k_op (sB (v := .bool false) (hs.f d1) cw7 ?_));intro h hs;obtain rfl := si H;exact st 6 [] (k_retQ ⟨_, by kernel_rfl, I, _, ⟨a3, p3, x9.length, a0, p0, x0.queue'.length, rfl, rfl⟩, hs.pk (.c d1 (.c d0 (.c d0 .n)))⟩)
  refine st 4 [] (k_op (lB (hs.bl d1) 7 rfl ?_));refine k_spl H (fun c9 H => ?_) (fun c9 H => ?_);rotate_left
  ·refine st 9 [false] (k_op (sB (v := .bool false) (hs.f d1) cw7 ?_));intro h hs;obtain rfl := si H;exact st 6 [] (k_retQ ⟨_, by kernel_rfl, I, _, ⟨a3, p3, x9.length, a0, p0, x0.queue'.length, rfl, rfl⟩, hs.pk (.c d1 (.c d0 (.c d0 .n)))⟩)
  obtain ⟨hk, bk⟩ := (hs.f d1).call tk1 (.c qN .n);refine st 7 [true] (k_call H (fun _ m => line_Line_told.calls m hk) ?_);rintro t1 _ h H ⟨I, _, ⟨a7, p7, n8, rfl, rfl⟩, hk⟩;replace hs := bk hk ct2 rfl;cases hs.nO d0;obtain ⟨I, hs⟩ := hs.fO;refine k_op (nS (e := 250) hs .i t_api_Pack ([t1.1] : List api_Pack) (cl_api_Pack t1.1 a7 t1.1.Data.length p7) 4 (.agg #[iv 0, iv 0, .bool false, .slice none 0 0]) (Reps.cons (T := t_api_Pack) (c := (cl_api_Pack t1.1 a7 t1.1.Data.length p7)) (x := t1.1) ⟨_, _, _, rfl, (hs.g d0)⟩ (.nil : Reps t_api_Pack (Cl.G .i E.B I) h [] [])) ?_);intro b3 h hs;replace hs := (hs.f d3);obtain ⟨l1, m2, H⟩ := bind_some H;refine k_op (aO (e := 250) (bytes := 48) hs (hs.sO d1) m2 ?_);intro a8 p8 h hs;refine st 7 [] (k_op (sB (v := .bool false) (hs.f d3) cw7 ?_));intro h hs;obtain rfl := si H;exact st 6 [] (k_retQ ⟨_, by kernel_rfl, I, _, ⟨a8, p8, l1.length, a0, p0, x0.queue'.length, rfl, rfl⟩, hs.pk (.c d1 (.c d0 (.c d2 .n)))⟩)
 refine st 1 [] (k_jF H hs (fun xU => [(0, pv b0), (3, .slice none 0 0), (33, .bool xU)]) ?_ ?_ ?_)
 ·intro j3 H;refine st 4 [] (k_op (lB (hs.bl d0) 0 rfl ?_));refine st 1 [] (k_ite H (fun c5 H => ?_) (fun c5 H => ?_))
  ·refine st 4 [] (k_op (lB (hs.bl d0) 6 rfl ?_));refine k_ite H (fun c6 H => ?_) (fun c6 H => ?_)
   ·exact st 2 [] (k_end ⟨true, I, H, ft, hs⟩)
   cases H
  exact st 8 [] (k_end ⟨false, I, H, ft, hs⟩)
 ·intro ρ h I H hs;exact st 2 [false] (k_end ⟨[], x0.given', x0.await', x0.wait', x5, x0.owes', none, 0, 0, I, H, ft, hs.pk (.f imON (.c d0 (.c d0 .n)))⟩)
 intro ρ h I H hs;refine st 3 [true] ?_;obtain ⟨hs0, bk0⟩ := hs.call tk0 (.c (qL d0) (.c (qO d1) .n));have hs := hs0;refine k_regD hs0 13 ?_;refine aRun [0, 1, 2] 10 hs.keep ?_;refine aL 3 rfl hs.keep (ll hs0 d0 (n := 0) rfl) (nmL hs0 d0) ?_;refine aRun [4, 5, 6] 6 hs.keep ?_;refine aL 7 rfl hs.keep (ll hs0 d0 (n := 0) rfl) (nmL hs0 d0) ?_;obtain ⟨c0, H⟩ := guard_pos H;obtain ⟨c1, H⟩ := guard_pos H;refine aRun [8, 9] 3 hs.keep ?_;refine aP 10 (.slice (slA a0 p0 (Int.toNat (0 : Int)) 4) ((sub x0.queue' 0 (mn 8 (x0.queue'.length : Int))).length) (p0 - Int.toNat (0 : Int))) rfl (pSh (e := 250) (k2 := .i64) (hs.sR d1) (Int.le_refl 0) c0 c1) hs.keep ?_;refine aRun [11, 12] 0 hs.keep ?_;replace hs := hs.pk .n;replace hs := bk0 hs ct0 rfl;refine aEnd ?_;refine st 1 [] ?_;obtain ⟨s0, m0, HR0⟩ := bind_some H;refine k_loop 0 (fun k' ρ h => ∃ (x4 : List api_Pack) (x2 : Int) (xA : Int) (xD : Int) (xF : Int) (xG : Int) (xH : Bool), ∃ a1 p1 n0 I, line_Line_Tick.l1.m K x0 k' x4 x2 xA xD xF xG xH = some s0 ∧ Fits [(0, pv b0), (3, .slice a1 n0 p1), (44, .slice (slA a0 p0 (Int.toNat (0 : Int)) 4) ((sub x0.queue' 0 (mn 8 (x0.queue'.length : Int))).length) (p0 - Int.toNat (0 : Int))), (45, iv ((sub x0.queue' 0 (mn 8 (x0.queue'.length : Int))).length : Int)), (46, iv x2)] ρ ∧ St E [rO t_api_Pack .i a1 p1 n0 x4, rB b0 [.slice a0 x0.queue'.length p0, iv xA, iv xD, v0, v1, iv xF, iv xG, .bool xH] 210, rO t_api_Pack .i a0 p0 x0.queue'.length x0.queue'] I h) (fun ρ h => ∃ (x3 : List api_Pack) (x6 : Int) (x7 : Int) (x1 : Int) (xM : Int) (x8 : Bool), ∃ a2 p2 n1 I, (x3, x6, x7, x1, xM, x8) = s0 ∧ Fits [(0, pv b0), (3, .slice a2 n1 p2)] ρ ∧ St E [rO t_api_Pack .i a2 p2 n1 x3, rB b0 [.slice a0 x0.queue'.length p0, iv x6, iv x7, v0, v1, iv x1, iv xM, .bool x8] 210, rO t_api_Pack .i a0 p0 x0.queue'.length x0.queue'] I h) K ⟨[], 0, x0.given', x0.await', x0.wait', x5, x0.owes', none, 0, 0, I, m0, ft, hs.pk (.f imON (.c d0 (.c d0 .n)))⟩ ?_ rfl ?_;rotate_left
 ·rintro ρ h ⟨x3, x6, x7, x1, xM, x8, a2, p2, n1, I, rfl, hf, hs⟩;have H := HR0;try dsimp only at H
  refine k_fits _ hf ?_ rfl;cases hs.nO d0;obtain ⟨hs0, bk0⟩ := (hs.f d1).call tk1 .n;have hs := hs0;refine k_regD hs0 15 ?_;refine aRun [0, 1, 2, 3, 4, 6, 7, 8] 10 hs.keep ?_;refine aT2 5 9 ?_ ?_
  ·refine aA rfl (lB (hs.bl d0) 5 rfl ?_);refine ⟨hs.keep, ?_⟩;refine aO1 9 rfl (lB (hs.bl d0) 5 rfl ?_);refine ⟨hs.keep, ?_⟩;refine aRun [10, 11, 12, 13] 4 hs.keep ?_;refine aO1 14 rfl (sB (v := iv x1) hs cw6 ?_);intro h hs;refine ⟨hs.keep, ?_⟩;replace hs := bk0 hs ct1 rfl;refine aOL 15 rfl (owp_pure (pv b0) (by kernel_rfl) ?_);refine aOL 16 rfl (owp_pure (.pointer (some ⟨b0, 5, none⟩)) (by kernel_rfl) ?_);refine aOL 17 rfl (sB (v := iv (mn (w64 (2 * x1)) 16)) hs cw5 ?_);intro h hs;refine aEnd ?_;exact k_end ⟨x3, x6, x7, (mn (w64 (2 * x1)) 16), x1, x8, a2, p2, x3.length, I, H, ft, hs.pk (.c d1 (.c d0 (.c d0 .n)))⟩
  refine aA rfl (lB (hs.bl d0) 5 rfl ?_);refine ⟨hs.keep, ?_⟩;refine aRun [10, 11] 7 hs.keep ?_;refine aO1 5 rfl (lB (hs.bl d0) 5 rfl ?_);refine ⟨hs.keep, ?_⟩;refine aRun [12, 13] 4 hs.keep ?_;refine aO1 14 rfl (sB (v := iv x1) hs cw6 ?_);intro h hs;refine ⟨hs.keep, ?_⟩;replace hs := bk0 hs ct1 rfl;refine aOL 15 rfl (owp_pure (pv b0) (by kernel_rfl) ?_);refine aOL 16 rfl (owp_pure (.pointer (some ⟨b0, 5, none⟩)) (by kernel_rfl) ?_);refine aOL 17 rfl (sB (v := iv (mn (w64 (2 * x1)) 16)) hs cw5 ?_);intro h hs;refine aEnd ?_;exact k_end ⟨x3, x6, x7, (mn (w64 (2 * x1)) 16), x1, x8, a2, p2, x3.length, I, H, ft, hs.pk (.c d1 (.c d0 (.c d0 .n)))⟩
 clear HR0 m0 H;rintro k' ρ h ⟨x4, x2, xA, xD, xF, xG, xH, a1, p1, n0, I, H, hf, hs⟩;cases k' with
 | zero => cases H
 | succ k =>
  rw [line_Line_Tick.l1.m] at H;refine k_fits _ hf ?_ rfl;cases hs.nO d0;refine st 1 [] (k_jF H hs (fun xV => [(0, pv b0), (3, .slice a1 x4.length p1), (44, .slice (slA a0 p0 (Int.toNat (0 : Int)) 4) ((sub x0.queue' 0 (mn 8 (x0.queue'.length : Int))).length) (p0 - Int.toNat (0 : Int))), (45, iv ((sub x0.queue' 0 (mn 8 (x0.queue'.length : Int))).length : Int)), (46, iv x2), (47, .bool xV)]) ?_ ?_ ?_)
  ·intro j4 H;refine st 1 [] (k_ite H (fun c7 H => ?_) (fun c7 H => ?_))
   ·exact st 1 [] (k_end ⟨true, I, H, ft, hs⟩)
   exact st 1 [] (k_end ⟨false, I, H, ft, hs⟩)
  ·intro ρ h I H hs;refine st 2 [false] (k_out rfl ?_);obtain rfl := si H;exact xE ⟨x4, xA, xD, xF, xG, xH, a1, p1, x4.length, I, rfl, ft, hs.pk (.c d0 (.c d0 (.c d0 .n)))⟩
  intro ρ h I H hs;obtain ⟨c2, H⟩ := guard_pos H;obtain ⟨c3, H⟩ := guard_pos H;refine st 7 [true] (k_val (elemPtr (slA a0 p0 (Int.toNat (0 : Int)) 4) (x2.toNat * 4)) (pI (e := 250) (ik := .i64) (Sn.part (hs.sO d2) (lo := 0) (hi := (mn 8 (x0.queue'.length : Int))) (Int.le_refl 0) c0 c1) c2 c3) ?_);obtain ⟨y0, g0, q1⟩ := (Sn.part (hs.sO d2) (lo := 0) (hi := (mn 8 (x0.queue'.length : Int))) (Int.le_refl 0) c0 c1).toSl.seg c2 c3;obtain ⟨a9, p9, n6, rfl, q0⟩ := t_api_Pack.open_ q1;obtain rfl := q0.2;replace hs := hs.pR q0;refine k_op (lG g0 ?_);refine k_op (nA hs [iv 0, iv 0, .bool false, .slice none 0 0] (.agg #[iv 0, iv 0, .bool false, .slice none 0 0]) ?_);intro b1 h hs;refine k_op (sN0 hs (cl_api_Pack (at_ (sub x0.queue' 0 (mn 8 (x0.queue'.length : Int))) x2) a9 (((at_ (sub x0.queue' 0 (mn 8 (x0.queue'.length : Int))) x2).Data).length) p9) (ones_of rfl) ?_);intro h hs;refine st 4 [] (k_op (lN (hs.bl d0) 0 4 ?_));obtain ⟨hk, bk⟩ := (hs.f d3).call tk1 (.c (qI d1) .n);refine k_call H (fun _ m => line_Line_told.calls m hk) ?_;rintro t0 _ h H ⟨I, _, ⟨a6, p6, n7, rfl, rfl⟩, hk⟩;replace hs := bk hk ct2 rfl;cases hs.nO d0;obtain ⟨I, hs⟩ := hs.fO;refine k_op (nS (e := 250) hs .i t_api_Pack ([t0.1] : List api_Pack) (cl_api_Pack t0.1 a6 t0.1.Data.length p6) 4 (.agg #[iv 0, iv 0, .bool false, .slice none 0 0]) (Reps.cons (T := t_api_Pack) (c := (cl_api_Pack t0.1 a6 t0.1.Data.length p6)) (x := t0.1) ⟨_, _, _, rfl, (hs.g d0)⟩ (.nil : Reps t_api_Pack (Cl.G .i E.B I) h [] [])) ?_);intro b2 h hs;replace hs := (hs.f d5);obtain ⟨l0, m1, H⟩ := bind_some H;refine k_op (aO (e := 250) (bytes := 48) hs (hs.sO d1) m1 ?_);intro aB pA h hs;exact st 7 [] (k_endL ⟨k, Nat.lt_succ_self _, l0, (w64 (x2 + 1)), t0.2.given', t0.2.await', t0.2.wait', t0.2.left', t0.2.owes', aB, pA, l0.length, I, H, ft, hs.pk (.c d0 (.c d2 (.c d4 .n)))⟩)
def piece_may.m (x0 : api_Pack) : Option Bool :=
  (if x0.Ack < 0 then none else (if x0.Ack > 2147483647 then none else (if x0.Num < 0 then none else (if x0.Num > 2147483647 then none else (if x0.Num = 0 then (bif x0.Last then none else (some ((x0.Data.length : Int) == 0))) else (if (x0.Data.length : Int) = 64 then none else (bif x0.Last then (if (x0.Data.length : Int) ≥ 1 then (some (decide ((x0.Data.length : Int) < 64))) else none) else none)))))))
theorem piece_may.calls {B I : Gh} {h : Heap} {x0 : api_Pack} {a0 : Option Addr} {p0 : Nat} {n0 : Nat} {r : Bool} (H : piece_may.m x0 = some r)  :
    Fc Tryz.prog 170 #[.agg (cl_api_Pack x0 a0 n0 p0).toArray] [rR (tInt .u8) .b a0 p0 n0 x0.Data] B I h (fun v L => v = .bool r ∧ L = []) := by
 refine fc_of fun E hs => ?_;unfold piece_may.m at H;cases hs.nR d0;refine fn_of (rs := [.tmp 2]) (N := 51) Tryz.func170 rfl rfl rfl rfl ?_;refine st 2 [] (k_op (nB hs (cl_api_Pack x0 a0 x0.Data.length p0) ?_));intro b0 h hs;refine st 5 [] (k_op (lB (hs.bl d0) 3 rfl ?_));refine st 8 [] (k_op (lB (hs.bl d0) 0 rfl ?_));refine k_ite H (fun c0 H => ?_) (fun c0 H => ?_)
 ·cases H
 refine st 2 [] (k_op (lB (hs.bl d0) 0 rfl ?_));refine k_ite H (fun c1 H => ?_) (fun c1 H => ?_)
 ·cases H
 refine st 3 [] (k_op (lB (hs.bl d0) 1 rfl ?_));refine k_ite H (fun c2 H => ?_) (fun c2 H => ?_)
 ·cases H
 refine st 3 [] (k_op (lB (hs.bl d0) 1 rfl ?_));refine k_ite H (fun c3 H => ?_) (fun c3 H => ?_)
 ·cases H
 refine st 7 [false] (k_op (lB (hs.bl d0) 1 rfl ?_));refine k_ite H (fun c4 H => ?_) (fun c4 H => ?_)
 ·refine st 6 [true] (k_op (lB (hs.bl d0) 2 rfl ?_));refine k_spl H (fun c5 H => ?_) (fun c5 H => ?_)
  ·cases H
  obtain rfl := si H;exact st 7 [] (k_retQ ⟨_, by kernel_rfl, I, _, ⟨rfl, rfl⟩, hs.pk .n⟩)
 refine st 8 [false] (k_ite H (fun c6 H => ?_) (fun c6 H => ?_))
 ·cases H
 refine st 2 [] (k_op (lB (hs.bl d0) 2 rfl ?_));refine k_spl H (fun c7 H => ?_) (fun c7 H => ?_);rotate_left
 ·cases H
 refine st 2 [] (k_ite H (fun c8 H => ?_) (fun c8 H => ?_))
 ·obtain rfl := si H;exact st 8 [] (k_retQ ⟨_, by kernel_rfl, I, _, ⟨rfl, rfl⟩, hs.pk .n⟩)
 cases H
def slices_Grow_bytes.m (x0 : Int) : Option (List Int) :=
  (if x0 < 0 then none else (if (w64 (x0 - (w64 (0 - 0)))) > 0 then ((gz (w64 (x0 - (w64 (0 - 0)))) 0).bind fun l0 => (if 0 ≤ (l0.length : Int) then (some (sub l0 0 0)) else none)) else none))
theorem slices_Grow_bytes.calls {B I : Gh} {h : Heap} {x0 : Int} {r : (List Int)} (H : slices_Grow_bytes.m x0 = some r)  :
    Fc Tryz.prog 191 #[.slice none 0 0, iv x0] [] B I h (fun v L => ∃ a0 p1 n0, v = .slice a0 n0 p1 ∧ L = [rO (tInt .u8) .i a0 p1 n0 r]) := by
 refine fc_of fun E hs => ?_;unfold slices_Grow_bytes.m at H;refine fn_of (rs := [.tmp 4]) (N := 27) Tryz.func191 rfl rfl rfl rfl ?_;refine st 8 [] (k_ite H (fun c1 H => ?_) (fun c1 H => ?_))
 ·cases H
 refine st 18 [false] (k_ite H (fun c2 H => ?_) (fun c2 H => ?_));rotate_left
 ·cases H
 obtain ⟨l0, m0, H⟩ := bind_some H;refine st 8 [true] (k_op (aZ (T := (tInt .u8)) (e := 5) (kn := .i64) 0 (.int .u8 0) hs m0 ?_ (fun _ _ => rfl)));intro b0 p0 h hs;obtain ⟨c0, H⟩ := guard_pos H;refine st 2 [] (k_val (.slice (slA (sa b0) p0 (Int.toNat (0 : Int)) 1) ((sub l0 0 0).length) (p0 - Int.toNat (0 : Int))) (pSh (e := 5) (k2 := .i64) (hs.sO d0) (Int.le_refl 0) (by decide) c0) ?_);obtain rfl := si H;replace hs := hs.partO (lo := 0) (hi := 0) (Int.le_refl 0) (by decide) c0;exact st 7 [] (k_retQ ⟨_, by kernel_rfl, I, _, ⟨(slA (sa b0) p0 (Int.toNat (0 : Int)) 1), (p0 - Int.toNat (0 : Int)), (sub l0 0 0).length, rfl, rfl⟩, hs.pk (.c d0 .n)⟩)
def slices_Concat_bytes.l1.m (K : Nat) (x1 : (List (List Int))) : Nat → Int → Int → Option (Int)
  | 0, _, _ => none
  | k + 1, x2, x0 => (letJ (α := Bool → Option (Int)) (fun x3 => (bif x3 then (if 0 ≤ x0 then (if x0 < (x1.length : Int) then (if (w64 (x2 + ((at_ x1 x0).length : Int))) < 0 then none else (slices_Concat_bytes.l1.m K x1 k (w64 (x2 + ((at_ x1 x0).length : Int))) (w64 (x0 + 1)))) else none) else none) else (some (x2)))) fun j0 => (if x0 < (x1.length : Int) then (j0 true) else (j0 false)))
def slices_Concat_bytes.l2.m (K : Nat) (x1 : (List (List Int))) : Nat → (List Int) → Int → Option ((List Int))
  | 0, _, _ => none
  | k + 1, x2, x0 => (if x0 < (x1.length : Int) then (if 0 ≤ x0 then ((app x2 (at_ x1 x0)).bind fun l0 => (slices_Concat_bytes.l2.m K x1 k l0 (w64 (x0 + 1)))) else none) else (some (x2)))
def slices_Concat_bytes.m (K : Nat) (x0 : (List (List Int))) : Option (List Int) :=
  ((slices_Concat_bytes.l1.m K x0 K 0 0).bind fun x1 => ((slices_Grow_bytes.m x1).bind fun t0 => ((slices_Concat_bytes.l2.m K x0 K t0 0).bind fun x2 => (some x2))))
theorem slices_Concat_bytes.calls {B I : Gh} {h : Heap} {K : Nat} {x0 : (List (List Int))} {a0 : Option Addr} {p0 : Nat} {n2 : Nat} {r : (List Int)} (H : slices_Concat_bytes.m K x0 = some r)  :
    Fc Tryz.prog 171 #[.slice a0 n2 p0] [rR (tSl (tInt .u8)) .b a0 p0 n2 x0] B I h (fun v L => ∃ a3 p3 n3, v = .slice a3 n3 p3 ∧ L = [rO (tInt .u8) .i a3 p3 n3 r]) := by
 refine fc_of fun E hs => ?_;unfold slices_Concat_bytes.m at H;cases hs.nR d0;refine fn_of (rs := [.tmp 2]) (N := 36) Tryz.func171 rfl rfl rfl rfl ?_;refine st 16 [] ?_;obtain ⟨s0, m0, HR0⟩ := bind_some H;refine k_loop 0 (fun k' ρ h => ∃ (x2 : Int) (x1 : Int), ∃ I, slices_Concat_bytes.l1.m K x0 k' x2 x1 = some s0 ∧ Fits [(0, .slice a0 x0.length p0), (3, iv x2), (9, .slice a0 x0.length p0), (10, iv (x0.length : Int)), (11, iv x1)] ρ ∧ St E [rR (tSl (tInt .u8)) .b a0 p0 x0.length x0] I h) (fun ρ h => ∃ (x7 : Int), ∃ I, x7 = s0 ∧ Fits [(0, .slice a0 x0.length p0), (3, iv x7)] ρ ∧ St E [rR (tSl (tInt .u8)) .b a0 p0 x0.length x0] I h) K ⟨0, 0, I, m0, ft, hs.pk (.c d0 .n)⟩ ?_ rfl ?_
 ·clear HR0 m0 H;rintro k' ρ h ⟨x2, x1, I, H, hf, hs⟩;cases k' with
  | zero => cases H
  | succ k =>
   rw [slices_Concat_bytes.l1.m] at H;refine k_fits _ hf ?_ rfl;refine st 1 [] ?_;obtain ⟨j0, e0, H⟩ := letJ_some H;refine k_join (fun ρ h => ∃ (x5 : Bool), ∃ I, j0 x5 = some s0 ∧ Fits [(0, .slice a0 x0.length p0), (3, iv x2), (9, .slice a0 x0.length p0), (10, iv (x0.length : Int)), (11, iv x1), (12, .bool x5)] ρ ∧ St E [rR (tSl (tInt .u8)) .b a0 p0 x0.length x0] I h) ?_ ?_
   ·refine st 1 [] (k_ite H (fun c4 H => ?_) (fun c4 H => ?_))
    ·exact st 1 [] (k_end ⟨true, I, H, ft, hs.pk (.c d0 .n)⟩)
    exact st 1 [] (k_end ⟨false, I, H, ft, hs.pk (.c d0 .n)⟩)
   clear H;rintro ρ h ⟨x5, I, H, hf, hs⟩;refine k_fits _ hf ?_ rfl;subst e0;try dsimp only at H
   cases x5
   ·rw [cond_false] at H;refine st 2 [false] (k_out rfl ?_);obtain rfl := si H;exact xE ⟨x2, I, rfl, ft, hs.pk (.c d0 .n)⟩
   rw [cond_true] at H;obtain ⟨c1, H⟩ := guard_pos H;obtain ⟨c2, H⟩ := guard_pos H;refine st 7 [true] (k_val (elemPtr a0 (x1.toNat * 1)) (pI (e := 23) (ik := .i64) (hs.sR d0) c1 c2) ?_);obtain ⟨y0, g0, q2⟩ := (hs.sR d0).toSl.seg c1 c2;obtain ⟨a6, p6, n4, rfl, q0⟩ := rep_sl q2;obtain rfl := q0.2;replace hs := hs.pR q0;refine k_op (lC (seg_cell (f := 0) g0 rfl) ?_);refine st 13 [] (k_ite H (fun c5 H => ?_) (fun c5 H => ?_))
   ·cases H
   exact st 8 [false] (k_endL ⟨k, Nat.lt_succ_self _, (w64 (x2 + ((at_ x0 x1).length : Int))), (w64 (x1 + 1)), I, H, ft, hs.pk (.c d1 .n)⟩)
 rintro ρ h ⟨x7, I, rfl, hf, hs⟩;have H := HR0;try dsimp only at H
 refine k_fits _ hf ?_ rfl;obtain ⟨hk, bk⟩ := hs.call tk0 .n;refine st 3 [] (k_call H (fun _ m => slices_Grow_bytes.calls m hk) ?_);rintro t0 _ h H ⟨I, _, ⟨a4, p4, n5, rfl, rfl⟩, hk⟩;replace hs := bk hk ct1 rfl;cases hs.nO d0;refine st 10 [] ?_;obtain ⟨s1, m1, HR1⟩ := bind_some H;refine k_loop 2 (fun k' ρ h => ∃ (x3 : List Int) (x4 : Int), ∃ a1 p1 n0 I, slices_Concat_bytes.l2.m K x0 k' x3 x4 = some s1 ∧ Fits [(6, .slice a1 n0 p1), (25, .slice a0 x0.length p0), (26, iv (x0.length : Int)), (27, iv x4)] ρ ∧ St E [rO (tInt .u8) .i a1 p1 n0 x3, rR (tSl (tInt .u8)) .b a0 p0 x0.length x0] I h) (fun ρ h => ∃ (x6 : List Int), ∃ a2 p2 n1 I, x6 = s1 ∧ Fits [(6, .slice a2 n1 p2)] ρ ∧ St E [rO (tInt .u8) .i a2 p2 n1 x6, rR (tSl (tInt .u8)) .b a0 p0 x0.length x0] I h) K ⟨t0, 0, a4, p4, t0.length, I, m1, ft, hs.pk (.c d0 (.c d0 .n))⟩ ?_ rfl ?_;rotate_left
 ·rintro ρ h ⟨x6, a2, p2, n1, I, rfl, hf, hs⟩;have H := HR1;try dsimp only at H
  refine k_fits _ hf ?_ rfl;cases hs.nO d0;obtain rfl := si H;exact st 5 [] (k_retQ ⟨_, by kernel_rfl, I, _, ⟨a2, p2, x6.length, rfl, rfl⟩, hs.pk (.c d0 .n)⟩)
 clear HR1 m1 H;rintro k' ρ h ⟨x3, x4, a1, p1, n0, I, H, hf, hs⟩;cases k' with
 | zero => cases H
 | succ k =>
  rw [slices_Concat_bytes.l2.m] at H;refine k_fits _ hf ?_ rfl;cases hs.nO d0;refine st 2 [] (k_ite H (fun c0 H => ?_) (fun c0 H => ?_));rotate_left
  ·refine st 3 [false] (k_out rfl ?_);obtain rfl := si H;exact xE ⟨x3, a1, p1, x3.length, I, rfl, ft, hs.pk (.c d0 (.c d0 .n))⟩
  obtain ⟨c3, H⟩ := guard_pos H;refine st 8 [true] (k_val (elemPtr a0 (x4.toNat * 1)) (pI (e := 23) (ik := .i64) (hs.sR d1) c3 c0) ?_);obtain ⟨y1, g1, q3⟩ := (hs.sR d1).toSl.seg c3 c0;obtain ⟨a7, p7, n6, rfl, q1⟩ := rep_sl q3;obtain rfl := q1.2;replace hs := hs.pR q1;refine k_op (lC (seg_cell (f := 0) g1 rfl) ?_);replace hs := (hs.f d1);obtain ⟨l0, m2, H⟩ := bind_some H;refine st 5 [] (k_op (aO (e := 5) (bytes := 1) hs ((hs.sR d1).flat flat_int) m2 ?_));intro a5 p5 h hs;exact st 7 [] (k_endL ⟨k, Nat.lt_succ_self _, l0, (w64 (x4 + 1)), a5, p5, l0.length, I, H, ft, hs.pk (.c d0 (.c d1 .n))⟩)
def piece_number.m (x0 : Int) : Option (List Int) :=
  (some [(IntKind.u8.wrap ((shr .i64 x0 24))), (IntKind.u8.wrap ((shr .i64 x0 16))), (IntKind.u8.wrap ((shr .i64 x0 8))), (IntKind.u8.wrap (x0))])
theorem piece_number.calls {B I : Gh} {h : Heap} {x0 : Int} {r : (List Int)} (H : piece_number.m x0 = some r)  :
    Fc Tryz.prog 172 #[iv x0] [] B I h (fun v L => ∃ a0 p0 n0, v = .slice a0 n0 p0 ∧ L = [rO (tInt .u8) .i a0 p0 n0 r]) := by
 refine fc_of fun E hs => ?_;unfold piece_number.m at H;refine fn_of (rs := [.tmp 2]) (N := 15) Tryz.func172 rfl rfl rfl rfl ?_;refine st 17 [] (k_op (nS (e := 5) hs .i (tInt .u8) ([(IntKind.u8.wrap ((shr .i64 x0 24))), (IntKind.u8.wrap ((shr .i64 x0 16))), (IntKind.u8.wrap ((shr .i64 x0 8))), (IntKind.u8.wrap (x0))] : List Int) [.int .u8 (IntKind.u8.wrap ((shr .i64 x0 24))), .int .u8 (IntKind.u8.wrap ((shr .i64 x0 16))), .int .u8 (IntKind.u8.wrap ((shr .i64 x0 8))), .int .u8 (IntKind.u8.wrap (x0))] 1 (.int .u8 0) (Reps.int (I := (Cl.G .i E.B I)) (k := .u8) (l := [(IntKind.u8.wrap ((shr .i64 x0 24))), (IntKind.u8.wrap ((shr .i64 x0 16))), (IntKind.u8.wrap ((shr .i64 x0 8))), (IntKind.u8.wrap (x0))])) ?_));intro b0 h hs;obtain rfl := si H;exact st 2 [] (k_retQ ⟨_, by kernel_rfl, I, _, ⟨(sa b0), 4, 4, rfl, rfl⟩, hs.pk (.c d0 .n)⟩)
def piece_Write.m (K : Nat) (x0 : api_Pack) : Option ((List Int) × GoErr) :=
  ((piece_may.m x0).bind fun t0 => bif t0 then (letJ (α := Int → Option ((List Int) × GoErr)) (fun x1 => ((piece_number.m x0.Ack).bind fun t1 => ((piece_number.m x0.Num).bind fun t2 => ((slices_Concat_bytes.m K ([t1, t2, [x1], x0.Data])).bind fun t3 => (some (t3, GoErr.nil)))))) fun j0 => (bif x0.Last then (j0 1) else (j0 0))) else none)
theorem piece_Write.calls {B I : Gh} {h : Heap} {K : Nat} {x1 : api_Pack} {a0 : Option Addr} {p0 : Nat} {n0 : Nat} {r : ((List Int) × GoErr)} (H : piece_Write.m K x1 = some r)  :
    Fc Tryz.prog 151 #[.agg (cl_api_Pack x1 a0 n0 p0).toArray] [rR (tInt .u8) .b a0 p0 n0 x1.Data] B I h (fun v L => ∃ a6 p6 n1 v0, v = .tuple #[.slice a6 n1 p6, v0] ∧ L = [rO (tInt .u8) .i a6 p6 n1 r.1, rE .i v0 r.2]) := by
 refine fc_of fun E hs => ?_;unfold piece_Write.m at H;cases hs.nR d0;refine fn_of (rs := [.tmp 2, .tmp 3]) (N := 23) Tryz.func151 rfl rfl rfl rfl ?_;refine st 2 [] (k_op (nB hs (cl_api_Pack x1 a0 x1.Data.length p0) ?_));intro b3 h hs;refine st 6 [] (k_op (lN (hs.bl d0) 0 4 ?_));obtain ⟨hk, bk⟩ := hs.call tk0 (.c (qB d1) .n);refine k_call H (fun _ m => piece_may.calls m hk) ?_;rintro t5 _ h H ⟨I, _, ⟨rfl, rfl⟩, hk⟩;replace hs := bk hk ct0 rfl;cases t5
 ·rw [cond_false] at H;cases H
 rw [cond_true] at H;refine st 9 [false] ?_;obtain ⟨j0, e0, H⟩ := letJ_some H;refine k_joinT (fun T ρ h => ∃ (x0 : Int), ∃ I, j0 x0 = some r ∧ Fits [(1, pv b3), (4, .int .u8 x0)] ρ ∧ St E T I h) hs tl0 ?_ ?_
 ·refine st 3 [] (k_op (lB (hs.bl d0) 2 rfl ?_));refine k_spl H (fun c0 H => ?_) (fun c0 H => ?_)
  ·exact st 5 [true] (k_end ⟨1, I, H, ft, hs⟩)
  exact st 3 [false] (k_end ⟨0, I, H, ft, hs⟩)
 clear H;rintro ρ h ⟨x0, I, H, hf, hs⟩;refine k_fits _ hf ?_ rfl;subst e0;try dsimp only at H
 refine st 1 [] ?_;obtain ⟨hs0, bk0⟩ := hs.call tk0 (.c (qL d0) (.c (qB d1) .n));have hs := hs0;refine k_regD hs0 14 ?_;refine aRun [0] 13 hs.keep ?_;refine aL 1 rfl hs.keep (ll hs0 d0 (n := 0) rfl) (nmL hs0 d0) ?_;refine aRun [3] 11 hs.keep ?_;refine aL 4 rfl hs.keep (ll hs0 d0 (n := 1) rfl) (nmL hs0 d0) ?_;refine aRun [6, 8] 8 hs.keep ?_;refine aL 9 rfl hs.keep (ll hs0 d0 (n := 3) rfl) (nmL hs0 d0) ?_;refine aT2 2 7 ?_ ?_;rotate_left
 ·refine aA rfl (nS (e := 5) hs .i (tInt .u8) ([x0] : List Int) [.int .u8 x0] 1 (.int .u8 0) (Reps.int (I := (Cl.G .i E.B I)) (k := .u8) (l := [x0])) ?_);intro b2 h hs;refine ⟨hs.keep, ?_⟩;obtain ⟨hk, bk⟩ := hs.call tk0 .n;refine aO1 2 rfl (o_call H (fun _ m => piece_number.calls m hk) ?_);rintro t3 _ h H ⟨I, _, ⟨a4, p4, n7, rfl, rfl⟩, hk⟩;replace hs := bk hk ct1 rfl;cases hs.nO d0;refine ⟨hs.keep, ?_⟩;obtain ⟨hk, bk⟩ := hs.call tk0 .n;refine aO1 5 rfl (o_call H (fun _ m => piece_number.calls m hk) ?_);rintro t4 _ h H ⟨I, _, ⟨a5, p5, n8, rfl, rfl⟩, hk⟩;replace hs := bk hk ct1 rfl;cases hs.nO d0;refine ⟨hs.keep, ?_⟩;obtain ⟨I, hs⟩ := (hs.f d1).fO;obtain ⟨I, hs⟩ := (hs.f d1).fO;obtain ⟨I, hs⟩ := (hs.f d2).fO;refine aO1 10 rfl (nS (e := 23) hs .b (tSl (tInt .u8)) ([t3, t4, [x0], x1.Data] : List (List Int)) [.slice a4 t3.length p4, .slice a5 t4.length p5, .slice (sa b2) 1 1, .slice a0 x1.Data.length p0] 1 (.slice none 0 0) (Reps.cons (T := (tSl (tInt .u8))) (c := [.slice a4 t3.length p4]) (x := t3) ⟨_, _, _, rfl, (imIB.2 (B := _) (hs.g d2))⟩ (Reps.cons (T := (tSl (tInt .u8))) (c := [.slice a5 t4.length p5]) (x := t4) ⟨_, _, _, rfl, (imIB.2 (B := _) (hs.g d1))⟩ (Reps.cons (T := (tSl (tInt .u8))) (c := [.slice (sa b2) 1 1]) (x := [x0]) ⟨_, _, _, rfl, (imIB.2 (B := _) (hs.g d0))⟩ (Reps.cons (T := (tSl (tInt .u8))) (c := [.slice a0 x1.Data.length p0]) (x := x1.Data) ⟨_, _, _, rfl, (hs.g d4)⟩ (.nil : Reps (tSl (tInt .u8)) (Cl.G .b _ I) h [] []))))) ?_);intro b6 h hs;refine ⟨hs.keep, ?_⟩;obtain ⟨hk, bk⟩ := hs.call tk0 (.c (qO d0) .n);refine aO1 11 rfl (o_call H (fun _ m => slices_Concat_bytes.calls m hk) ?_);rintro t8 _ h H ⟨I, _, ⟨a9, p9, n9, rfl, rfl⟩, hk⟩;replace hs := bk hk ct1 rfl;cases hs.nO d0;refine ⟨hs.keep, ?_⟩;refine aRun [12, 13] 0 hs.keep ?_;replace hs := hs.pk (.c d0 (.c d1 (.c d1 (.c d1 .n))));replace hs := bk0 hs ct4 rfl;refine aEnd ?_;obtain rfl := si H;exact k_retQ ⟨_, by kernel_rfl, I, _, ⟨a9, p9, t8.length, (.nilIface), rfl, rfl⟩, hs.pk (.c d0 (.f imEN .n))⟩
 obtain ⟨hk, bk⟩ := hs.call tk0 .n;refine aA rfl (o_call H (fun _ m => piece_number.calls m hk) ?_);rintro t0 _ h H ⟨I, _, ⟨a1, p1, n2, rfl, rfl⟩, hk⟩;replace hs := bk hk ct1 rfl;cases hs.nO d0;refine ⟨hs.keep, ?_⟩;refine aT2 5 7 ?_ ?_
 ·obtain ⟨hk, bk⟩ := hs.call tk0 .n;refine aA rfl (o_call H (fun _ m => piece_number.calls m hk) ?_);rintro t1 _ h H ⟨I, _, ⟨a2, p2, n3, rfl, rfl⟩, hk⟩;replace hs := bk hk ct1 rfl;cases hs.nO d0;refine ⟨hs.keep, ?_⟩;refine aO1 7 rfl (nS (e := 5) hs .i (tInt .u8) ([x0] : List Int) [.int .u8 x0] 1 (.int .u8 0) (Reps.int (I := (Cl.G .i E.B I)) (k := .u8) (l := [x0])) ?_);intro b0 h hs;refine ⟨hs.keep, ?_⟩;obtain ⟨I, hs⟩ := (hs.f d2).fO;obtain ⟨I, hs⟩ := (hs.f d2).fO;obtain ⟨I, hs⟩ := (hs.f d2).fO;refine aO1 10 rfl (nS (e := 23) hs .b (tSl (tInt .u8)) ([t0, t1, [x0], x1.Data] : List (List Int)) [.slice a1 t0.length p1, .slice a2 t1.length p2, .slice (sa b0) 1 1, .slice a0 x1.Data.length p0] 1 (.slice none 0 0) (Reps.cons (T := (tSl (tInt .u8))) (c := [.slice a1 t0.length p1]) (x := t0) ⟨_, _, _, rfl, (imIB.2 (B := _) (hs.g d2))⟩ (Reps.cons (T := (tSl (tInt .u8))) (c := [.slice a2 t1.length p2]) (x := t1) ⟨_, _, _, rfl, (imIB.2 (B := _) (hs.g d1))⟩ (Reps.cons (T := (tSl (tInt .u8))) (c := [.slice (sa b0) 1 1]) (x := [x0]) ⟨_, _, _, rfl, (imIB.2 (B := _) (hs.g d0))⟩ (Reps.cons (T := (tSl (tInt .u8))) (c := [.slice a0 x1.Data.length p0]) (x := x1.Data) ⟨_, _, _, rfl, (hs.g d4)⟩ (.nil : Reps (tSl (tInt .u8)) (Cl.G .b _ I) h [] []))))) ?_);intro b4 h hs;refine ⟨hs.keep, ?_⟩;obtain ⟨hk, bk⟩ := hs.call tk0 (.c (qO d0) .n);refine aO1 11 rfl (o_call H (fun _ m => slices_Concat_bytes.calls m hk) ?_);rintro t6 _ h H ⟨I, _, ⟨a7, p7, n4, rfl, rfl⟩, hk⟩;replace hs := bk hk ct1 rfl;cases hs.nO d0;refine ⟨hs.keep, ?_⟩;refine aRun [12, 13] 0 hs.keep ?_;replace hs := hs.pk (.c d0 (.c d1 (.c d1 (.c d1 .n))));replace hs := bk0 hs ct4 rfl;refine aEnd ?_;obtain rfl := si H;exact k_retQ ⟨_, by kernel_rfl, I, _, ⟨a7, p7, t6.length, (.nilIface), rfl, rfl⟩, hs.pk (.c d0 (.f imEN .n))⟩
 refine aA rfl (nS (e := 5) hs .i (tInt .u8) ([x0] : List Int) [.int .u8 x0] 1 (.int .u8 0) (Reps.int (I := (Cl.G .i E.B I)) (k := .u8) (l := [x0])) ?_);intro b1 h hs;refine ⟨hs.keep, ?_⟩;obtain ⟨hk, bk⟩ := hs.call tk0 .n;refine aO1 5 rfl (o_call H (fun _ m => piece_number.calls m hk) ?_);rintro t2 _ h H ⟨I, _, ⟨a3, p3, n5, rfl, rfl⟩, hk⟩;replace hs := bk hk ct1 rfl;cases hs.nO d0;refine ⟨hs.keep, ?_⟩;obtain ⟨I, hs⟩ := (hs.f d2).fO;obtain ⟨I, hs⟩ := (hs.f d1).fO;obtain ⟨I, hs⟩ := (hs.f d2).fO;refine aO1 10 rfl (nS (e := 23) hs .b (tSl (tInt .u8)) ([t0, t2, [x0], x1.Data] : List (List Int)) [.slice a1 t0.length p1, .slice a3 t2.length p3, .slice (sa b1) 1 1, .slice a0 x1.Data.length p0] 1 (.slice none 0 0) (Reps.cons (T := (tSl (tInt .u8))) (c := [.slice a1 t0.length p1]) (x := t0) ⟨_, _, _, rfl, (imIB.2 (B := _) (hs.g d2))⟩ (Reps.cons (T := (tSl (tInt .u8))) (c := [.slice a3 t2.length p3]) (x := t2) ⟨_, _, _, rfl, (imIB.2 (B := _) (hs.g d1))⟩ (Reps.cons (T := (tSl (tInt .u8))) (c := [.slice (sa b1) 1 1]) (x := [x0]) ⟨_, _, _, rfl, (imIB.2 (B := _) (hs.g d0))⟩ (Reps.cons (T := (tSl (tInt .u8))) (c := [.slice a0 x1.Data.length p0]) (x := x1.Data) ⟨_, _, _, rfl, (hs.g d4)⟩ (.nil : Reps (tSl (tInt .u8)) (Cl.G .b _ I) h [] []))))) ?_);intro b5 h hs;refine ⟨hs.keep, ?_⟩;obtain ⟨hk, bk⟩ := hs.call tk0 (.c (qO d0) .n);refine aO1 11 rfl (o_call H (fun _ m => slices_Concat_bytes.calls m hk) ?_);rintro t7 _ h H ⟨I, _, ⟨a8, p8, n6, rfl, rfl⟩, hk⟩;replace hs := bk hk ct1 rfl;cases hs.nO d0;refine ⟨hs.keep, ?_⟩;refine aRun [12, 13] 0 hs.keep ?_;replace hs := hs.pk (.c d0 (.c d1 (.c d1 (.c d1 .n))));replace hs := bk0 hs ct4 rfl;refine aEnd ?_;obtain rfl := si H;exact k_retQ ⟨_, by kernel_rfl, I, _, ⟨a8, p8, t7.length, (.nilIface), rfl, rfl⟩, hs.pk (.c d0 (.f imEN .n))⟩
def side_side_packs.l1.m (K : Nat) (x1 : side_side) (t0 : ((List api_Pack) × line_Line)) : Nat → (List (List Int)) → Int → Int → Option ((List (List Int)) × Int)
  | 0, _, _, _ => none
  | k + 1, x3, x0, x2 => (letJ (α := Bool → Option ((List (List Int)) × Int)) (fun x4 => (bif x4 then (if 0 ≤ x0 then (if x0 < (t0.1.length : Int) then ((piece_Write.m K (at_ t0.1 x0)).bind fun t1 => (if t1.2 = GoErr.nil then ((frame_Seal.m K x1.key' (⟨x1.dir', (w64 (x2 + 1)), t1.1⟩ : api_Frame)).bind fun t2 => (if t2.2 = GoErr.nil then ((app x3 [t2.1]).bind fun l0 => (side_side_packs.l1.m K x1 t0 k l0 (w64 (x0 + 1)) (w64 (x2 + 1)))) else none)) else none)) else none) else none) else (some ((x3, x2))))) fun j0 => (if x0 < (t0.1.length : Int) then (j0 true) else (j0 false)))
def side_side_packs.m (K : Nat) (x0 : side_side) : Option ((List (List Int)) × side_side) :=
  ((line_Line_Tick.m K x0.line').bind fun t0 => ((side_side_packs.l1.m K x0 t0 K [] 0 x0.seq').bind fun (x1, x2) => (some (x1, (⟨x0.key', x0.gate', (⟨t0.2.queue', t0.2.given', t0.2.await', x0.line'.kept', x0.line'.coming', t0.2.wait', t0.2.left', t0.2.owes'⟩ : line_Line), x0.dir', x2⟩ : side_side)))))
theorem side_side_packs.calls {B I : Gh} {h : Heap} {K : Nat} {x0 : side_side} {b1 : Nat} {a0 : Option Addr} {p0 : Nat} {n6 : Nat} {v0 : Value} {b0 : Nat} {aB : Option Addr} {pA : Nat} {n7 : Nat} {b2 : Nat} {a1 : Option Addr} {p1 : Nat} {n8 : Nat} {tlA : List Value} {TT0 : TypeId} {r : ((List (List Int)) × side_side)} (H : side_side_packs.m K x0 = some r)  :
    Fc Tryz.prog 133 #[pv b1] [rB b1 (.slice a0 n6 p0 :: v0 :: iv x0.gate'.Dir :: iv x0.gate'.Seen.Top :: .int .u64 x0.gate'.Seen.Bits :: .string x0.gate'.Peer.Addr :: iv x0.gate'.Peer.Seq :: pv b0 :: iv x0.dir' :: iv x0.seq' :: tlA) TT0, rB b0 [.slice aB n7 pA, iv x0.line'.given', iv x0.line'.await', .map (some b2), .slice a1 n8 p1, iv x0.line'.wait', iv x0.line'.left', .bool x0.line'.owes'] 210, rO t_api_Pack .i aB pA n7 x0.line'.queue', rM t_api_Pack b2 x0.line'.kept', rO (tInt .u8) .i a1 p1 n8 x0.line'.coming', rR (tInt .u8) .i a0 p0 n6 x0.key'] B I h (fun v L => ∃ a6 p6 n2 a7 p7 n3 a8 p8 n4 a9 p9 n5, v = .slice a6 n2 p6 ∧ L = [rO (tSl (tInt .u8)) .i a6 p6 n2 r.1, rB b1 (.slice a7 n3 p7 :: v0 :: iv r.2.gate'.Dir :: iv r.2.gate'.Seen.Top :: .int .u64 r.2.gate'.Seen.Bits :: .string r.2.gate'.Peer.Addr :: iv r.2.gate'.Peer.Seq :: pv b0 :: iv r.2.dir' :: iv r.2.seq' :: tlA) TT0, rR (tInt .u8) .i a7 p7 n3 r.2.key', rB b0 [.slice a8 n4 p8, iv r.2.line'.given', iv r.2.line'.await', .map (some b2), .slice a9 n5 p9, iv r.2.line'.wait', iv r.2.line'.left', .bool r.2.line'.owes'] 210, rO t_api_Pack .i a8 p8 n4 r.2.line'.queue', rM t_api_Pack b2 r.2.line'.kept', rO (tInt .u8) .i a9 p9 n5 r.2.line'.coming']) := by
 refine fc_of fun E hs => ?_;unfold side_side_packs.m at H;cases hs.nO d2;cases hs.nO d4;cases hs.nR d5;refine fn_of (rs := [.tmp 2]) (N := 59) Tryz.func133 rfl rfl rfl rfl ?_;refine st 14 [] (k_op (lB (hs.bl d0) 7 rfl ?_));obtain ⟨hk, bk⟩ := ((hs.f d2).f d2).call tk2 .n;refine k_call H (fun _ m => line_Line_Tick.calls m hk) ?_;rintro t0 _ h H ⟨I, _, ⟨a4, p5, n9, a2, p2, nC, rfl, rfl⟩, hk⟩;replace hs := bk hk ct3 rfl;cases hs.nO d0;cases hs.nO d2;refine st 4 [] ?_;obtain ⟨s0, m0, HR0⟩ := bind_some H;refine k_loopT hs tl4 0 (fun T k' ρ h => ∃ (x2 : List (List Int)) (x1 : Int) (x3 : Int), ∃ a3 p3 n0 I, side_side_packs.l1.m K x0 t0 k' x2 x1 x3 = some s0 ∧ Fits [(0, pv b1), (3, .slice a3 n0 p3), (13, .slice a4 t0.1.length p5), (14, iv (t0.1.length : Int)), (15, iv x1)] ρ ∧ St E (rO (tSl (tInt .u8)) .i a3 p3 n0 x2 :: rO t_api_Pack .i a4 p5 t0.1.length t0.1 :: rB b1 (.slice a0 x0.key'.length p0 :: v0 :: iv x0.gate'.Dir :: iv x0.gate'.Seen.Top :: .int .u64 x0.gate'.Seen.Bits :: .string x0.gate'.Peer.Addr :: iv x0.gate'.Peer.Seq :: pv b0 :: iv x0.dir' :: iv x3 :: tlA) TT0 :: rO t_api_Pack .i a2 p2 t0.2.queue'.length t0.2.queue' :: rB b0 [.slice a2 t0.2.queue'.length p2, iv t0.2.given', iv t0.2.await', .map (some b2), .slice a1 x0.line'.coming'.length p1, iv t0.2.wait', iv t0.2.left', .bool t0.2.owes'] 210 :: T) I h) (fun T ρ h => ∃ (x4 : List (List Int)) (x5 : Int), ∃ a5 p4 n1 I, (x4, x5) = s0 ∧ Fits [(3, .slice a5 n1 p4)] ρ ∧ St E (rO (tSl (tInt .u8)) .i a5 p4 n1 x4 :: rB b1 (.slice a0 x0.key'.length p0 :: v0 :: iv x0.gate'.Dir :: iv x0.gate'.Seen.Top :: .int .u64 x0.gate'.Seen.Bits :: .string x0.gate'.Peer.Addr :: iv x0.gate'.Peer.Seq :: pv b0 :: iv x0.dir' :: iv x5 :: tlA) TT0 :: rO t_api_Pack .i a2 p2 t0.2.queue'.length t0.2.queue' :: rB b0 [.slice a2 t0.2.queue'.length p2, iv t0.2.given', iv t0.2.await', .map (some b2), .slice a1 x0.line'.coming'.length p1, iv t0.2.wait', iv t0.2.left', .bool t0.2.owes'] 210 :: T) I h) K ⟨[], 0, x0.seq', none, 0, 0, I, m0, ft, hs.pk (.f imON (.c d0 (.c d2 (.c d1 (.c d0 pk0)))))⟩ ?_ rfl ?_;rotate_left
 ·rintro ρ h ⟨x4, x5, a5, p4, n1, I, rfl, hf, hs⟩;have H := HR0;try dsimp only at H
  refine k_fits _ hf ?_ rfl;cases hs.nO d0;obtain rfl := si H;exact st 5 [] (k_retQ ⟨_, by kernel_rfl, I, _, ⟨a5, p4, x4.length, a0, p0, x0.key'.length, a2, p2, t0.2.queue'.length, a1, p1, x0.line'.coming'.length, rfl, rfl⟩, hs.pk (.c d0 (.c d0 (.c d4 (.c d1 (.c d0 (.c d0 (.c d0 .n)))))))⟩)
 clear HR0 m0 H;rintro k' ρ h ⟨x2, x1, x3, a3, p3, n0, I, H, hf, hs⟩;cases k' with
 | zero => cases H
 | succ k =>
  rw [side_side_packs.l1.m] at H;refine k_fits _ hf ?_ rfl;cases hs.nO d0;refine st 1 [] (k_jF H hs (fun x6 => [(0, pv b1), (3, .slice a3 x2.length p3), (13, .slice a4 t0.1.length p5), (14, iv (t0.1.length : Int)), (15, iv x1), (16, .bool x6)]) ?_ ?_ ?_)
  ·intro j0 H;refine st 1 [] (k_ite H (fun c4 H => ?_) (fun c4 H => ?_))
   ·exact st 1 [] (k_end ⟨true, I, H, ft, hs⟩)
   exact st 1 [] (k_end ⟨false, I, H, ft, hs⟩)
  ·intro ρ h I H hs;refine st 2 [false] (k_out rfl ?_);obtain rfl := si H;exact xE ⟨x2, x3, a3, p3, x2.length, I, rfl, ft, hs.pk (.c d0 (.c d1 (.c d1 (.c d1 pk1))))⟩
  intro ρ h I H hs;obtain ⟨c2, H⟩ := guard_pos H;obtain ⟨c3, H⟩ := guard_pos H;refine st 7 [true] (k_val (elemPtr a4 (x1.toNat * 4)) (pI (e := 250) (ik := .i64) (hs.sO d1) c2 c3) ?_);obtain ⟨y0, g0, q1⟩ := (hs.sO d1).toSl.seg c2 c3;obtain ⟨aE, pD, nD, rfl, q0⟩ := t_api_Pack.open_ q1;obtain rfl := q0.2;replace hs := hs.pR q0;refine k_op (lG g0 ?_);refine k_op (nA hs [iv 0, iv 0, .bool false, .slice none 0 0] (.agg #[iv 0, iv 0, .bool false, .slice none 0 0]) ?_);intro b3 h hs;refine k_op (sN0 hs (cl_api_Pack (at_ t0.1 x1) aE (((at_ t0.1 x1).Data).length) pD) (ones_of rfl) ?_);intro h hs;refine st 3 [] (k_op (lN (hs.bl d0) 0 4 ?_));obtain ⟨hk, bk⟩ := hs.call tk0 (.c (qI d1) .n);refine k_call H (fun _ m => piece_Write.calls m hk) ?_;rintro t2 _ h H ⟨I, _, ⟨aF, pG, nE, v1, rfl, rfl⟩, hk⟩;replace hs := bk hk ct2 rfl;cases hs.nO d0;rcases (hs.er d1).cases with ⟨c0, rfl⟩ | ⟨c0, t3, u0, rfl⟩;rotate_left
  ·rw [if_neg c0] at H;cases H
  rw [if_pos c0] at H;refine st 19 [false] (k_op (lB (hs.bl d6) 9 rfl ?_));refine st 3 [] (k_op (sB (v := iv (w64 (x3 + 1))) (hs.f d6) cw9 ?_));intro h hs;refine st 2 [] ?_;obtain ⟨hs0, bk0⟩ := hs.call tk0 (.c (qL d0) (.c (qK d11) (.c (qO d1) .n)));have hs := hs0;refine k_regD hs0 20 ?_;refine aRun [0, 1, 2] 17 hs.keep ?_;refine aL 3 rfl hs.keep (ll hs0 d0 (n := 0) rfl) (nmL hs0 d0) ?_;refine aRun [4, 5, 6] 13 hs.keep ?_;refine aL 7 rfl hs.keep (ll hs0 d0 (n := 8) rfl) (nmL hs0 d0) ?_;refine aRun [8, 9, 10] 9 hs.keep ?_;refine aL 11 rfl hs.keep (ll hs0 d0 (n := 9) rfl) (nmL hs0 d0) ?_;refine aRun [12, 13] 6 hs.keep ?_;obtain ⟨hk, bk⟩ := hs.call tk0 (.c (qI d1) (.c (qB d2) .n));refine aO1 14 rfl (o_call H (fun _ m => frame_Seal.calls m hk) ?_);rintro t1 _ h H ⟨I, _, ⟨aC, pB, nF, v2, rfl, rfl⟩, hk⟩;replace hs := bk hk ct2 rfl;cases hs.nO d0;refine ⟨hs.keep, ?_⟩;refine aRun [15, 16, 17, 18, 19] 0 hs.keep ?_;replace hs := hs.pk (.c d0 (.c d0 .n));replace hs := bk0 hs ct2 rfl;refine aEnd ?_;rcases (hs.er d1).cases with ⟨c1, rfl⟩ | ⟨c1, t4, u1, rfl⟩;rotate_left
  ·rw [if_neg c1] at H;cases H
  rw [if_pos c1] at H;obtain ⟨I, hs⟩ := hs.fO;refine st 9 [true] (k_op (nS (e := 23) hs .i (tSl (tInt .u8)) ([t1.1] : List (List Int)) [.slice aC t1.1.length pB] 1 (.slice none 0 0) (Reps.cons (T := (tSl (tInt .u8))) (c := [.slice aC t1.1.length pB]) (x := t1.1) ⟨_, _, _, rfl, (hs.g d0)⟩ (.nil : Reps (tSl (tInt .u8)) (Cl.G .i E.B I) h [] [])) ?_));intro b4 h hs;replace hs := (hs.f d8);obtain ⟨l0, m1, H⟩ := bind_some H;refine k_op (aO (e := 23) (bytes := 24) hs (hs.sO d1) m1 ?_);intro aD pC h hs;exact st 7 [] (k_endL ⟨k, Nat.lt_succ_self _, l0, (w64 (x1 + 1)), (w64 (x3 + 1)), aD, pC, l0.length, I, H, ft, hs.pk (.c d0 (.c d8 (.c d3 (.c d7 (.c d7 pk7)))))⟩)
def side_Client_Tick.m (K : Nat) (x0 : side_Client) : Option ((List (List Int)) × side_Client) :=
  ((side_Client_work.m K x0).bind fun t0 => ((side_side_packs.m K (⟨x0.side'.key', (⟨x0.side'.gate'.Key, t0.side'.gate'.Dir, t0.side'.gate'.Seen, t0.side'.gate'.Peer⟩ : roam_Gate), x0.side'.line', t0.side'.dir', t0.side'.seq'⟩ : side_side)).bind fun t1 => (some (t1.1, (⟨(⟨t1.2.key', (⟨x0.side'.gate'.Key, t1.2.gate'.Dir, t1.2.gate'.Seen, t1.2.gate'.Peer⟩ : roam_Gate), t1.2.line', t1.2.dir', t1.2.seq'⟩ : side_side), (⟨t0.s'.Rows, t0.s'.Cols, x0.s'.Cells, t0.s'.Cursor, t0.s'.Locked, t0.s'.Insert⟩ : api_Screen), t0.todo', x0.sent', x0.events'⟩ : side_Client)))))
theorem side_Client_Tick.calls {B I : Gh} {h : Heap} {K : Nat} {x0 : side_Client} {b2 : Nat} {a0 : Option Addr} {p0 : Nat} {n0 : Nat} {v0 : Value} {b0 : Nat} {a1 : Option Addr} {p1 : Nat} {n1 : Nat} {b1 : Nat} {a2 : Option Addr} {p2 : Nat} {n2 : Nat} {v1 : Value} {a3 : Option Addr} {p3 : Nat} {n3 : Nat} {v2 : Value} {v3 : Value} {r : ((List (List Int)) × side_Client)} (H : side_Client_Tick.m K x0 = some r)  :
    Fc Tryz.prog 106 #[pv b2] [rB b2 [.slice a0 n0 p0, v0, iv x0.side'.gate'.Dir, iv x0.side'.gate'.Seen.Top, .int .u64 x0.side'.gate'.Seen.Bits, .string x0.side'.gate'.Peer.Addr, iv x0.side'.gate'.Peer.Seq, pv b0, iv x0.side'.dir', iv x0.side'.seq', iv x0.s'.Rows, iv x0.s'.Cols, v1, iv x0.s'.Cursor, .bool x0.s'.Locked, .bool x0.s'.Insert, .slice a3 n3 p3, v2, v3] 122, rB b0 [.slice a1 n1 p1, iv x0.side'.line'.given', iv x0.side'.line'.await', .map (some b1), .slice a2 n2 p2, iv x0.side'.line'.wait', iv x0.side'.line'.left', .bool x0.side'.line'.owes'] 210, rO t_api_Pack .i a1 p1 n1 x0.side'.line'.queue', rM t_api_Pack b1 x0.side'.line'.kept', rO (tInt .u8) .i a2 p2 n2 x0.side'.line'.coming', rO (tSl (tInt .u8)) .i a3 p3 n3 x0.todo', rR (tInt .u8) .i a0 p0 n0 x0.side'.key'] B I h (fun v L => ∃ a4 p4 n4 a5 p5 n5 a6 p6 n6 a7 p7 n7 a8 p8 n8, v = .slice a4 n4 p4 ∧ L = [rO (tSl (tInt .u8)) .i a4 p4 n4 r.1, rB b2 [.slice a5 n5 p5, v0, iv r.2.side'.gate'.Dir, iv r.2.side'.gate'.Seen.Top, .int .u64 r.2.side'.gate'.Seen.Bits, .string r.2.side'.gate'.Peer.Addr, iv r.2.side'.gate'.Peer.Seq, pv b0, iv r.2.side'.dir', iv r.2.side'.seq', iv r.2.s'.Rows, iv r.2.s'.Cols, v1, iv r.2.s'.Cursor, .bool r.2.s'.Locked, .bool r.2.s'.Insert, .slice a8 n8 p8, v2, v3] 122, rR (tInt .u8) .i a5 p5 n5 r.2.side'.key', rB b0 [.slice a6 n6 p6, iv r.2.side'.line'.given', iv r.2.side'.line'.await', .map (some b1), .slice a7 n7 p7, iv r.2.side'.line'.wait', iv r.2.side'.line'.left', .bool r.2.side'.line'.owes'] 210, rO t_api_Pack .i a6 p6 n6 r.2.side'.line'.queue', rM t_api_Pack b1 r.2.side'.line'.kept', rO (tInt .u8) .i a7 p7 n7 r.2.side'.line'.coming', rO (tSl (tInt .u8)) .i a8 p8 n8 r.2.todo']) := by
 refine fc_of fun E hs => ?_;unfold side_Client_Tick.m at H;cases hs.nO d2;cases hs.nO d4;cases hs.nO d5;cases hs.nR d6;refine fn_of (rs := [.tmp 2]) (N := 9) Tryz.func106 rfl rfl rfl rfl ?_;obtain ⟨hk, bk⟩ := ((hs.f d5).f d1).call tk2 .n;refine st 7 [] (k_call H (fun _ m => side_Client_work.calls m hk) ?_);rintro t1 _ h H ⟨I, _, ⟨a9, p9, n9, rfl, rfl⟩, hk⟩;replace hs := bk hk ct2 rfl;cases hs.nO d1;obtain ⟨hk, bk⟩ := (((((hs.f d5).f d5).f d5).f d5).f d4).call tk5 (.c (qK d1) .n);refine st 6 [] (k_call H (fun _ m => side_side_packs.calls m hk) ?_);rintro t0 _ h H ⟨I, _, ⟨aB, pA, nC, aC, pB, nD, aD, pC, nE, aE, pD, nF, rfl, rfl⟩, hk⟩;replace hs := bk hk (.s ct6) rfl;cases hs.nO d0;cases hs.nR d2;cases hs.nO d4;cases hs.nO d6;obtain rfl := si H;exact st 2 [] (k_retQ ⟨_, by kernel_rfl, I, _, ⟨aB, pA, t0.1.length, aC, pB, t0.2.key'.length, aD, pC, t0.2.line'.queue'.length, aE, pD, t0.2.line'.coming'.length, a9, p9, t1.todo'.length, rfl, rfl⟩, hs.pk (.c d0 (.c d0 (.c d0 (.c d0 (.c d0 (.c d0 (.c d0 (.c d0 .n))))))))⟩)
def net_copied.m (x0 : api_Mail) : Option api_Mail :=
  ((slices_Clone_bytes.m x0.Bytes).bind fun t0 => (some (⟨x0.From, x0.To, x0.Goal, t0⟩ : api_Mail)))
theorem net_copied.calls {B I : Gh} {h : Heap} {x0 : api_Mail} {a1 : Option Addr} {p1 : Nat} {n0 : Nat} {r : api_Mail} (H : net_copied.m x0 = some r)  :
    Fc Tryz.prog 153 #[.agg (cl_api_Mail x0 a1 n0 p1).toArray] [rR (tInt .u8) .b a1 p1 n0 x0.Bytes] B I h (fun v L => ∃ a2 p2 n1, v = .agg (cl_api_Mail r a2 n1 p2).toArray ∧ L = [rO (tInt .u8) .i a2 p2 n1 r.Bytes]) := by
 refine fc_of fun E hs => ?_;unfold net_copied.m at H;cases hs.nR d0;refine fn_of2 (rs := [.cell 2 166]) (N := 8) Tryz.func153 rfl rfl rfl rfl ?_;refine st 2 [] (k_op (nB hs (cl_api_Mail x0 a1 x0.Bytes.length p1) ?_));intro b0 h hs;refine k_op (nA hs [.string (⟨#[]⟩ : ByteArray), iv 0, .string (⟨#[]⟩ : ByteArray), .slice none 0 0] (.agg #[.string (⟨#[]⟩ : ByteArray), iv 0, .string (⟨#[]⟩ : ByteArray), .slice none 0 0]) ?_);intro b1 h hs;refine st 4 [] (k_op (lB (hs.bl d1) 3 rfl ?_));obtain ⟨hk, bk⟩ := hs.call tk0 (.c (qB d2) .n);refine k_call H (fun _ m => slices_Clone_bytes.calls m hk) ?_;rintro t0 _ h H ⟨I, _, ⟨a0, p0, n2, rfl, rfl⟩, hk⟩;replace hs := bk hk ct1 rfl;cases hs.nO d0;refine st 1 [] (k_op (sB (v := .slice a0 t0.length p0) (hs.f d2) cw3 ?_));intro h hs;refine st 3 [] (k_op (lN (hs.bl d0) 0 4 ?_));refine k_op (sN0 (hs.f d2) (cl_api_Mail x0 a0 t0.length p0) (ones_of rfl) ?_);intro h hs;obtain rfl := si H;exact st 1 [] (k_retQ ⟨[.agg (cl_api_Mail x0 a0 t0.length p0).toArray], (.cons (.agg (by kernel_rfl) (by kernel_rfl) (by kernel_rfl) ((hs.bl d0).seg_ 0 4 (Nat.le_of_ble_eq_true rfl))) .nil), I, _, ⟨a0, p0, t0.length, rfl, rfl⟩, hs.pk (.c d2 .n)⟩)
def net_Air_lay.m (x0 : net_Air) (x1 : api_Mail) (x2 : Int) : Option net_Air :=
  (if (x0.l'.length : Int) < 200 then ((net_copied.m x1).bind fun t0 => ((app x0.l' [(⟨t0, x2⟩ : net_flight)]).bind fun l0 => (some (⟨l0⟩ : net_Air)))) else none)
theorem net_Air_lay.calls {B I : Gh} {h : Heap} {x2 : net_Air} {x1 : api_Mail} {x0 : Int} {b0 : Nat} {a1 : Option Addr} {p1 : Nat} {n0 : Nat} {a0 : Option Addr} {p0 : Nat} {n1 : Nat} {r : net_Air} (H : net_Air_lay.m x2 x1 x0 = some r)  :
    Fc Tryz.prog 134 #[pv b0, .agg (cl_api_Mail x1 a0 n1 p0).toArray, iv x0] [rB b0 [.slice a1 n0 p1] 161, rO t_net_flight .i a1 p1 n0 x2.l', rR (tInt .u8) .b a0 p0 n1 x1.Bytes] B I h (fun v L => ∃ a4 p4 n2, v = .tuple #[] ∧ L = [rB b0 [.slice a4 n2 p4] 161, rO t_net_flight .i a4 p4 n2 r.l']) := by
 refine fc_of fun E hs => ?_;unfold net_Air_lay.m at H;cases hs.nO d1;cases hs.nR d2;refine fn_of (rs := []) (N := 25) Tryz.func134 rfl rfl rfl rfl ?_;refine st 2 [] (k_op (nB hs (cl_api_Mail x1 a0 x1.Bytes.length p0) ?_));intro b1 h hs;refine st 6 [] (k_op (lB (hs.bl d1) 0 rfl ?_));refine st 1 [] (k_ite H (fun c0 H => ?_) (fun c0 H => ?_));rotate_left
 ·cases H
 refine st 2 [true] ?_;obtain ⟨hs0, bk0⟩ := (hs.f d2).call tk1 (.c (qL d1) (.c (qL d0) (.c (qB d2) .n)));have hs := hs0;refine k_regD hs0 11 ?_;refine aRun [0, 1, 2, 3] 10 hs.keep ?_;refine aL 4 rfl hs.keep (ll hs0 d1 (n := 0) rfl) (nmL hs0 d1) ?_;refine aG 5 rfl hs.keep (lls hs0 d2 0 4 rfl) (nmL hs0 d2) ?_;refine aRun [7] 7 hs.keep ?_;obtain ⟨hk, bk⟩ := hs.call tk0 (.c (qB d3) .n);refine aO1 6 rfl (o_call H (fun _ m => net_copied.calls m hk) ?_);rintro t0 _ h H ⟨I, _, ⟨a2, p2, n3, rfl, rfl⟩, hk⟩;replace hs := bk hk ct1 rfl;cases hs.nO d0;refine ⟨hs.keep, ?_⟩;obtain ⟨I, hs⟩ := hs.fO;refine aRun [8] 5 hs.keep ?_;refine aO1 9 rfl (nS (e := 236) hs .i t_net_flight ([(⟨t0, x0⟩ : net_flight)] : List net_flight) [.string t0.From, iv t0.To, .string t0.Goal, .slice a2 t0.Bytes.length p2, iv x0] 5 (.agg #[.string (⟨#[]⟩ : ByteArray), iv 0, .string (⟨#[]⟩ : ByteArray), .slice none 0 0, iv 0]) (Reps.cons (T := t_net_flight) (c := [.string t0.From, iv t0.To, .string t0.Goal, .slice a2 t0.Bytes.length p2, iv x0]) (x := (⟨t0, x0⟩ : net_flight)) ⟨_, _, _, rfl, (hs.g d0)⟩ (.nil : Reps t_net_flight (Cl.G .i E.B I) h [] [])) ?_);intro b2 h hs;refine ⟨hs.keep, ?_⟩;replace hs := (hs.f d2);obtain ⟨l0, m0, H⟩ := bind_some H;refine aO1 10 rfl (aO (e := 236) (bytes := 72) hs (hs.sO d1) m0 ?_);intro a3 p3 h hs;refine ⟨hs.keep, ?_⟩;replace hs := hs.pk (.c d0 (.c d0 (.c d0 .n)));replace hs := bk0 hs ct3 rfl;refine aOL 11 rfl (owp_pure (pv b0) (by kernel_rfl) ?_);refine aOL 12 rfl (owp_pure (pv b0) (by kernel_rfl) ?_);refine aOL 13 rfl (sB (v := .slice a3 l0.length p3) (hs.f d4) cw0 ?_);intro h hs;refine aEnd ?_;refine k_fin ?_;obtain rfl := si H;exact ⟨_, by kernel_rfl, I, _, ⟨a3, p3, l0.length, rfl, rfl⟩, hs.pk (.c d0 (.c d0 .n))⟩
theorem net_Air_lay.callsD {B I : Gh} {h : Heap} {x0 : net_Air} {x1 : api_Mail} {x2 : Int} {b0 : Nat} {a21 : Option Addr} {p22 : Nat} {n23 : Nat} {a25 : Option Addr} {p26 : Nat} {n27 : Nat} {r : net_Air} (H : net_Air_lay.m x0 x1 x2 = some r)  :
    FcD Tryz.prog 134 #[pv b0, .agg (cl_api_Mail x1 a25 n27 p26).toArray, iv x2] [rB b0 [.slice a21 n23 p22] 161, rO t_net_flight .i a21 p22 n23 x0.l', rR (tInt .u8) .b a25 p26 n27 x1.Bytes] B I h (fun v L => ∃ a43 p44 n45, v = .tuple #[] ∧ L = [rB b0 [.slice a43 n45 p44] 161, rO t_net_flight .i a43 p44 n45 r.l']) := by
 refine fcD_of fun E hs => ?_
 unfold net_Air_lay.m at H
 cases hs.nO d1
 cases hs.nR d2
 refine fnD_of (rs := []) (N := 25) Tryz.func134 rfl rfl rfl rfl ?_
 refine st 2 [] (k_op (nB hs (cl_api_Mail x1 a25 x1.Bytes.length p26) ?_))
 intro b29 h hs
 refine st 6 [] (k_op (lB (hs.bl d1) 0 rfl ?_))
 refine st 1 [] (k_ite H (fun c30 H => ?_) (fun c30 H => ?_))
 rotate_left
 ·cases H
 refine st 2 [true] ?_
 obtain ⟨hs0, bk0⟩ := (hs.f d2).call tk1 (.c (qL d1) (.c (qL d0) (.c (qB d2) .n)))
 have hs := hs0
 refine k_regD hs0 11 ?_
 refine aRun [0, 1, 2, 3] 10 hs.keep ?_
 refine aL 4 rfl hs.keep (ll hs0 d1 (n := 0) rfl) (nmL hs0 d1) ?_
 refine aG 5 rfl hs.keep (lls hs0 d2 0 4 rfl) (nmL hs0 d2) ?_
 refine aRun [7] 7 hs.keep ?_
 obtain ⟨hk, bk⟩ := hs.call tk0 (.c (qB d3) .n)
 refine aO1 6 rfl (o_call H (fun _ m => net_copied.calls m hk) ?_)
 rintro t31 _ h H ⟨I, _, ⟨a32, p33, n34, rfl, rfl⟩, hk⟩
 replace hs := bk hk ct1 rfl
 cases hs.nO d0
 refine ⟨hs.keep, ?_⟩
 obtain ⟨I, hs⟩ := hs.fO
 refine aRun [8] 5 hs.keep ?_
 refine aO1 9 rfl (nS (e := 236) hs .i t_net_flight ([(⟨t31, x2⟩ : net_flight)] : List net_flight) [.string t31.From, iv t31.To, .string t31.Goal, .slice a32 t31.Bytes.length p33, iv x2] 5 (.agg #[.string (⟨#[]⟩ : ByteArray), iv 0, .string (⟨#[]⟩ : ByteArray), .slice none 0 0, iv 0]) (Reps.cons (T := t_net_flight) (c := [.string t31.From, iv t31.To, .string t31.Goal, .slice a32 t31.Bytes.length p33, iv x2]) (x := (⟨t31, x2⟩ : net_flight)) ⟨_, _, _, rfl, (hs.g d0)⟩ (.nil : Reps t_net_flight (Cl.G .i E.B I) h [] [])) ?_)
 intro b36 h hs
 refine ⟨hs.keep, ?_⟩
 replace hs := (hs.f d2)
 obtain ⟨l38, m39, H⟩ := bind_some H
 refine aO1 10 rfl (aO (e := 236) (bytes := 72) hs (hs.sO d1) m39 ?_)
 intro a40 p41 h hs
 refine ⟨hs.keep, ?_⟩
 replace hs := hs.pk (.c d0 (.c d0 (.c d0 .n)))
 replace hs := bk0 hs ct3 rfl
 refine aOL 11 rfl (owp_pure (pv b0) (by kernel_rfl) ?_)
 refine aOL 12 rfl (owp_pure (pv b0) (by kernel_rfl) ?_)
 refine aOL 13 rfl (sB (v := .slice a40 l38.length p41) (hs.f d4) cw0 ?_)
 intro h hs
 refine aEnd ?_
 refine k_fin ?_
 obtain rfl := si H
 exact ⟨_, by kernel_rfl, I, _, ⟨a40, p41, l38.length, rfl, rfl⟩, hs.pk (.c d0 (.c d0 .n))⟩
def net_Air_Throw.m (x0 : net_Air) (x1 : api_Mail) (x2 : api_Fate) : Option net_Air :=
  bif x2.Lost then some x0 else ((net_Air_lay.m x0 x1 (mn (mx x2.Delay 0) 1000)).bind fun t => bif x2.Twice then net_Air_lay.m t x1 (w64 (w64 (2 * mn (mx x2.Delay 0) 1000) + 1)) else some t)
theorem net_Air_Throw.calls {B I : Gh} {h : Heap} {x0 : net_Air} {x1 : api_Mail} {x2 : api_Fate} {b0 : Nat} {a21 : Option Addr} {p22 : Nat} {n23 : Nat} {a25 : Option Addr} {p26 : Nat} {n27 : Nat} {r : net_Air} (H : net_Air_Throw.m x0 x1 x2 = some r) :
    Fc Tryz.prog 107 #[.pointer (some ⟨b0, 0, none⟩), .agg #[.string x1.From, .int .i64 x1.To, .string x1.Goal, .slice a25 n27 p26], .agg #[.bool x2.Lost, .bool x2.Twice, .int .i64 x2.Delay]] [rB b0 [.slice a21 n23 p22] 161, rO t_net_flight .i a21 p22 n23 x0.l', rR (tInt .u8) .b a25 p26 n27 x1.Bytes] B I h (fun v L => ∃ (a46 : Option Addr) (p47 : Nat) (n48 : Nat), v = .tuple #[] ∧ L = [rB b0 [.slice a46 n48 p47] 161, rO t_net_flight .i a46 p47 n48 r.l']) := by
 refine fc_of fun E hs => ?_
 unfold net_Air_Throw.m at H
 obtain rfl := hs.nO d1
 obtain rfl := hs.nR d2
 obtain ⟨lost, twice, delay⟩ := x2
 dsimp only at H ⊢
 refine fn_defer (args := [.pointer (some ⟨b0, 0, none⟩), .agg #[.string x1.From, .int .i64 x1.To, .string x1.Goal, .slice a25 x1.Bytes.length p26], .agg #[.bool lost, .bool twice, .int .i64 delay]]) (rs := []) (N := 26) (i0 := 0) (i3 := 3) (pre := (dfOps Tryz.f107).dropLast) (D := dfLast (dfOps Tryz.f107))
  (JA := fun ρ h => ∃ (b4 b5 : Nat) (I : Gh), Fits [(0, .pointer (some ⟨b0, 0, none⟩)), (4, .pointer (some ⟨b4, 0, none⟩)), (5, .pointer (some ⟨b5, 0, none⟩)), (6, .int .i64 (mn (mx delay 0) 1000))] ρ ∧ St E [rB b5 [.bool lost, .bool twice, .int .i64 delay] 200, rB b4 [.string x1.From, .int .i64 x1.To, .string x1.Goal, .slice a25 x1.Bytes.length p26] 166, rB b0 [.slice a21 x0.l'.length p22] 161, rO t_net_flight .i a21 p22 x0.l'.length x0.l', rR (tInt .u8) .b a25 p26 x1.Bytes.length x1.Bytes] I h)
  (J1 := fun ρ h => ∃ (b4 : Nat) (I : Gh), lost = false ∧ twice = true ∧ Fits [(0, .pointer (some ⟨b0, 0, none⟩)), (4, .pointer (some ⟨b4, 0, none⟩)), (6, .int .i64 (mn (mx delay 0) 1000))] ρ ∧ St E [rB b4 [.string x1.From, .int .i64 x1.To, .string x1.Goal, .slice a25 x1.Bytes.length p26] 166, rB b0 [.slice a21 x0.l'.length p22] 161, rO t_net_flight .i a21 p22 x0.l'.length x0.l', rR (tInt .u8) .b a25 p26 x1.Bytes.length x1.Bytes] I h)
  (J2 := fun ρ h => ∃ (b4 : Nat) (I : Gh), lost = false ∧ twice = false ∧ Fits [(0, .pointer (some ⟨b0, 0, none⟩)), (4, .pointer (some ⟨b4, 0, none⟩)), (6, .int .i64 (mn (mx delay 0) 1000))] ρ ∧ St E [rB b4 [.string x1.From, .int .i64 x1.To, .string x1.Goal, .slice a25 x1.Bytes.length p26] 166, rB b0 [.slice a21 x0.l'.length p22] 161, rO t_net_flight .i a21 p22 x0.l'.length x0.l', rR (tInt .u8) .b a25 p26 x1.Bytes.length x1.Bytes] I h)
  (J3 := fun d ρ h => d = ⟨.fn (.func 134) #[], #[.pointer (some ⟨b0, 0, none⟩), .agg #[.string x1.From, .int .i64 x1.To, .string x1.Goal, .slice a25 x1.Bytes.length p26], .int .i64 (w64 (w64 (2 * mn (mx delay 0) 1000) + 1))]⟩ ∧ ∃ (b4 : Nat) (I : Gh), lost = false ∧ twice = true ∧ Fits [(0, .pointer (some ⟨b0, 0, none⟩)), (4, .pointer (some ⟨b4, 0, none⟩)), (6, .int .i64 (mn (mx delay 0) 1000))] ρ ∧ St E [rB b4 [.string x1.From, .int .i64 x1.To, .string x1.Goal, .slice a25 x1.Bytes.length p26] 166, rB b0 [.slice a21 x0.l'.length p22] 161, rO t_net_flight .i a21 p22 x0.l'.length x0.l', rR (tInt .u8) .b a25 p26 x1.Bytes.length x1.Bytes] I h)
  (JD := fun ρ h => Region.wanted (dfLast (dfOps Tryz.f107)) (yd 26 ((dfOps Tryz.f107).dropLast ++ [dfLast (dfOps Tryz.f107)]).toArray ρ) = true ∧ (∀ w : World, w.heap = h → (execOp (ev 26 ρ) (dfLast (dfOps Tryz.f107))).run Tryz.prog w = .ok (.defer ⟨.fn (.func 134) #[], #[.pointer (some ⟨b0, 0, none⟩), .agg #[.string x1.From, .int .i64 x1.To, .string x1.Goal, .slice a25 x1.Bytes.length p26], .int .i64 (w64 (w64 (2 * mn (mx delay 0) 1000) + 1))]⟩) w) ∧ ∃ (b4 : Nat) (I : Gh), lost = false ∧ twice = true ∧ Fits [(0, .pointer (some ⟨b0, 0, none⟩)), (4, .pointer (some ⟨b4, 0, none⟩)), (6, .int .i64 (mn (mx delay 0) 1000))] (put 26 ρ (dfLast (dfOps Tryz.f107)).dst undef) ∧ St E [rB b4 [.string x1.From, .int .i64 x1.To, .string x1.Goal, .slice a25 x1.Bytes.length p26] 166, rB b0 [.slice a21 x0.l'.length p22] 161, rO t_net_flight .i a21 p22 x0.l'.length x0.l', rR (tInt .u8) .b a25 p26 x1.Bytes.length x1.Bytes] I h)
  (F := fun _ h => ∃ (a : Option Addr) (p n : Nat) (I : Gh), St E [rB b0 [.slice a n p] 161, rO t_net_flight .i a p n r.l'] I h)
  (G := fun d _ h => ∃ (a : Option Addr) (p n : Nat) (I : Gh) (t : net_Air), net_Air_lay.m t x1 (w64 (w64 (2 * mn (mx delay 0) 1000) + 1)) = some r ∧ d = ⟨.fn (.func 134) #[], #[.pointer (some ⟨b0, 0, none⟩), .agg #[.string x1.From, .int .i64 x1.To, .string x1.Goal, .slice a25 x1.Bytes.length p26], .int .i64 (w64 (w64 (2 * mn (mx delay 0) 1000) + 1))]⟩ ∧ St E [rB b0 [.slice a n p] 161, rO t_net_flight .i a p n t.l', rR (tInt .u8) .b a25 p26 x1.Bytes.length x1.Bytes] I h)
  Tryz.func107 rfl rfl rfl rfl (by decide) ?_ ?_ ?_ ?_ ?_ ?_ ?_ ?_
 ·refine st 1 [] (k_op (nB hs [.string x1.From, .int .i64 x1.To, .string x1.Goal, .slice a25 x1.Bytes.length p26] ?_))
  intro b4 h hs
  refine k_op (nB hs [.bool lost, .bool twice, .int .i64 delay] ?_)
  intro b5 h hs
  refine st 3 [] (k_op (lB (hs.bl d0) 2 rfl ?_))
  refine st 4 [] ?_
  exact k_end ⟨b4, b5, I, ⟨by kernel_rfl, by kernel_rfl, by kernel_rfl, by kernel_rfl, trivial⟩, hs⟩
 ·rintro ρ h ⟨b4, b5, I, hf, hs⟩
  refine k_fits _ hf ?_ rfl
  refine st 8 [] (k_op (lB (hs.bl d0) 0 rfl ?_))
  cases lost with
  | true =>
   obtain rfl := Option.some.inj (show some x0 = some r from H)
   refine st 5 [true] ?_
   refine k_retQ ?_
   exact ⟨a21, p22, x0.l'.length, I, hs.pk (.c d2 (.c d2 .n))⟩
  | false =>
   refine st 7 [false] (k_op (lB (hs.bl d0) 1 rfl ?_))
   cases twice with
   | true =>
    refine st 4 [true] ?_
    exact ⟨b4, I, rfl, rfl, ⟨by kernel_rfl, by kernel_rfl, by kernel_rfl, trivial⟩, hs.pk (.c d1 (.c d1 (.c d1 (.c d1 .n))))⟩
   | false =>
    refine st 4 [false] ?_
    refine k_out rfl ?_
    exact ⟨rfl, b4, I, rfl, rfl, ⟨by kernel_rfl, by kernel_rfl, by kernel_rfl, trivial⟩, hs.pk (.c d1 (.c d1 (.c d1 (.c d1 .n))))⟩
 ·rintro ρ h ⟨b4, I, e1, e2, hf, hs⟩
  refine k_fits _ hf ?_ rfl
  refine st 1 [] (k_op (lN (hs.bl d0) 0 4 ?_))
  refine st 4 [] ?_
  exact k_end ⟨by kernel_rfl, fun w _ => pureRun_run (by kernel_rfl) w, b4, I, e1, e2, ⟨by kernel_rfl, by kernel_rfl, by kernel_rfl, trivial⟩, hs⟩
 ·rintro ρ h ⟨e1, e2, e3⟩
  exact ⟨e1, _, e2, rfl, e3⟩
 ·rintro ρ h ⟨b4, I, rfl, rfl, hf, hs⟩
  refine k_fits _ hf ?_ rfl
  refine st 3 [] (k_op (lN (hs.bl d0) 0 4 ?_))
  replace hs := hs.pk (.c d1 (.c d1 (.c d1 .n)))
  obtain ⟨hk, bk⟩ := hs.call tk2 (.c (qB d0) .n)
  refine st 1 [] (k_call H (fun _ m => net_Air_lay.calls m hk) ?_)
  rintro t _ h H ⟨I, _, ⟨a, p, n, rfl, rfl⟩, hk⟩
  replace hs := bk hk ct2 rfl
  obtain rfl := Option.some.inj (show some t = some r from H)
  refine st 1 [] ?_
  refine k_out rfl ?_
  exact ⟨rfl, a, p, n, I, hs.pk (.c d0 (.c d0 .n))⟩
 ·rintro d ρ h ⟨rfl, b4, I, rfl, rfl, hf, hs⟩
  refine k_fits _ hf ?_ rfl
  refine st 3 [] (k_op (lN (hs.bl d0) 0 4 ?_))
  replace hs := hs.pk (.c d1 (.c d1 (.c d1 .n)))
  obtain ⟨hk, bk⟩ := hs.call tk2 (.c (qB d0) .n)
  refine st 1 [] (k_call H (fun _ m => net_Air_lay.calls m hk) ?_)
  rintro t _ h H ⟨I, _, ⟨a, p, n, rfl, rfl⟩, hk⟩
  replace hs := bk hk ct2 rfl
  refine st 1 [] ?_
  refine k_out rfl ?_
  exact ⟨rfl, a, p, n, I, t, H, rfl, hs⟩
 ·rintro ρ h ⟨a, p, n, I, hs⟩
  exact ⟨_, by kernel_rfl, I, _, ⟨a, p, n, rfl, rfl⟩, hs⟩
 ·rintro d ρ h ⟨a, p, n, I, t, H, rfl, hs⟩
  obtain ⟨hk, bk⟩ := hs.call tk2 (.c (qB d0) .n)
  refine ⟨_, _, _, 134, _, _, rfl, fun w _ => pureRun_run (by kernel_rfl) w, net_Air_lay.callsD H hk, ?_⟩
  rintro v h ⟨I, _, ⟨a, p, n, rfl, rfl⟩, hk⟩
  replace hs := bk hk ct2 rfl
  exact ⟨_, by kernel_rfl, I, _, ⟨a, p, n, rfl, rfl⟩, hs.pk (.c d0 (.c d0 .n))⟩
def world_world_fate.m (x0 : world_world) : Option (api_Fate × world_world) :=
  (if (x0.fates'.length : Int) = 0 then (some ((⟨false, false, 0⟩ : api_Fate), x0)) else none)
theorem world_world_fate.calls {B I : Gh} {h : Heap} {x0 : world_world} {b0 : Nat} {v0 : Value} {v1 : Value} {v2 : Value} {v3 : Value} {v4 : Value} {v5 : Value} {a0 : Option Addr} {p0 : Nat} {n0 : Nat} {v6 : Value} {v7 : Value} {r : (api_Fate × world_world)} (H : world_world_fate.m x0 = some r)  :
    Fc Tryz.prog 108 #[pv b0] [rB b0 [iv x0.s'.Rows, iv x0.s'.Cols, v0, v1, v2, v3, v4, v5, .string x0.addr', .slice a0 n0 p0, v6, v7] 107, rR t_api_Fate .i a0 p0 n0 x0.fates'] B I h (fun v L => ∃ a1 p1 n1, v = .agg #[.bool r.1.Lost, .bool r.1.Twice, iv r.1.Delay] ∧ L = [rB b0 [iv x0.s'.Rows, iv x0.s'.Cols, v0, v1, v2, v3, v4, v5, .string x0.addr', .slice a1 n1 p1, v6, v7] 107, rR t_api_Fate .i a1 p1 n1 r.2.fates']) := by
 refine fc_of fun E hs => ?_;unfold world_world_fate.m at H;cases hs.nR d1;refine fn_of2 (rs := [.cell 2 200]) (N := 26) Tryz.func108 rfl rfl rfl rfl ?_;refine st 2 [] (k_op (nA hs [.bool false, .bool false, iv 0] (.agg #[.bool false, .bool false, iv 0]) ?_));intro b1 h hs;refine st 7 [] (k_op (lB (hs.bl d1) 9 rfl ?_));refine st 1 [] (k_ite H (fun c0 H => ?_) (fun c0 H => ?_));rotate_left
 ·cases H
 refine st 5 [true] (k_op (sN0 hs [.bool false, .bool false, iv 0] (ones_of rfl) ?_));intro h hs;obtain rfl := si H;exact st 1 [] (k_retQ ⟨[.agg #[.bool false, .bool false, iv 0]], (.cons (.agg (by kernel_rfl) (by kernel_rfl) (by kernel_rfl) ((hs.bl d0).seg_ 0 3 (Nat.le_of_ble_eq_true rfl))) .nil), I, _, ⟨a0, p0, x0.fates'.length, rfl, rfl⟩, hs.pk (.c d1 (.c d1 .n))⟩)
def side_Host_Tick.m (K : Nat) (x0 : side_Host) : Option ((List (List Int)) × side_Host) :=
  ((side_side_packs.m K x0.side').bind fun t0 => (some (t0.1, (⟨(⟨t0.2.key', (⟨x0.side'.gate'.Key, t0.2.gate'.Dir, t0.2.gate'.Seen, t0.2.gate'.Peer⟩ : roam_Gate), t0.2.line', t0.2.dir', t0.2.seq'⟩ : side_side), x0.got'⟩ : side_Host))))
theorem side_Host_Tick.calls {B I : Gh} {h : Heap} {K : Nat} {x0 : side_Host} {b2 : Nat} {a0 : Option Addr} {p0 : Nat} {n0 : Nat} {v0 : Value} {b0 : Nat} {a1 : Option Addr} {p1 : Nat} {n1 : Nat} {b1 : Nat} {a2 : Option Addr} {p2 : Nat} {n2 : Nat} {v1 : Value} {r : ((List (List Int)) × side_Host)} (H : side_Host_Tick.m K x0 = some r)  :
    Fc Tryz.prog 109 #[pv b2] [rB b2 [.slice a0 n0 p0, v0, iv x0.side'.gate'.Dir, iv x0.side'.gate'.Seen.Top, .int .u64 x0.side'.gate'.Seen.Bits, .string x0.side'.gate'.Peer.Addr, iv x0.side'.gate'.Peer.Seq, pv b0, iv x0.side'.dir', iv x0.side'.seq', v1] 124, rB b0 [.slice a1 n1 p1, iv x0.side'.line'.given', iv x0.side'.line'.await', .map (some b1), .slice a2 n2 p2, iv x0.side'.line'.wait', iv x0.side'.line'.left', .bool x0.side'.line'.owes'] 210, rO t_api_Pack .i a1 p1 n1 x0.side'.line'.queue', rM t_api_Pack b1 x0.side'.line'.kept', rO (tInt .u8) .i a2 p2 n2 x0.side'.line'.coming', rR (tInt .u8) .i a0 p0 n0 x0.side'.key'] B I h (fun v L => ∃ a3 p3 n3 a4 p4 n4 a5 p5 n5 a6 p6 n6, v = .slice a3 n3 p3 ∧ L = [rO (tSl (tInt .u8)) .i a3 p3 n3 r.1, rB b2 [.slice a4 n4 p4, v0, iv r.2.side'.gate'.Dir, iv r.2.side'.gate'.Seen.Top, .int .u64 r.2.side'.gate'.Seen.Bits, .string r.2.side'.gate'.Peer.Addr, iv r.2.side'.gate'.Peer.Seq, pv b0, iv r.2.side'.dir', iv r.2.side'.seq', v1] 124, rR (tInt .u8) .i a4 p4 n4 r.2.side'.key', rB b0 [.slice a5 n5 p5, iv r.2.side'.line'.given', iv r.2.side'.line'.await', .map (some b1), .slice a6 n6 p6, iv r.2.side'.line'.wait', iv r.2.side'.line'.left', .bool r.2.side'.line'.owes'] 210, rO t_api_Pack .i a5 p5 n5 r.2.side'.line'.queue', rM t_api_Pack b1 r.2.side'.line'.kept', rO (tInt .u8) .i a6 p6 n6 r.2.side'.line'.coming']) := by
 refine fc_of fun E hs => ?_;unfold side_Host_Tick.m at H;cases hs.nO d2;cases hs.nO d4;cases hs.nR d5;refine fn_of (rs := [.tmp 2]) (N := 7) Tryz.func109 rfl rfl rfl rfl ?_;obtain ⟨hk, bk⟩ := (((((hs.f d4).f d4).f d4).f d4).f d4).call tk5 (.c (qK d0) .n);refine st 9 [] (k_call H (fun _ m => side_side_packs.calls m hk) ?_);rintro t0 _ h H ⟨I, _, ⟨a7, p7, n7, a8, p8, n8, a9, p9, n9, aB, pA, nC, rfl, rfl⟩, hk⟩;replace hs := bk hk (.s ct6) rfl;cases hs.nO d0;cases hs.nR d2;cases hs.nO d4;cases hs.nO d6;obtain rfl := si H;exact st 2 [] (k_retQ ⟨_, by kernel_rfl, I, _, ⟨a7, p7, t0.1.length, a8, p8, t0.2.key'.length, a9, p9, t0.2.line'.queue'.length, aB, pA, t0.2.line'.coming'.length, rfl, rfl⟩, hs.pk (.c d0 (.c d0 (.c d0 (.c d0 (.c d0 (.c d0 (.c d0 .n)))))))⟩)
def side_side_Peer.m (x0 : side_side) : Option (api_Peer × side_side) :=
  (some (x0.gate'.Peer, x0))
theorem side_side_Peer.calls {B I : Gh} {h : Heap} {x0 : side_side} {b0 : Nat} {v0 : Value} {v1 : Value} {v2 : Value} {tlA : List Value} {TT0 : TypeId} {r : (api_Peer × side_side)} (H : side_side_Peer.m x0 = some r)  :
    Fc Tryz.prog 46 #[pv b0] [rB b0 (v0 :: v1 :: iv x0.gate'.Dir :: iv x0.gate'.Seen.Top :: .int .u64 x0.gate'.Seen.Bits :: .string x0.gate'.Peer.Addr :: iv x0.gate'.Peer.Seq :: v2 :: iv x0.dir' :: iv x0.seq' :: tlA) TT0] B I h (fun v L => v = .agg #[.string r.1.Addr, iv r.1.Seq] ∧ L = [rB b0 (v0 :: v1 :: iv r.2.gate'.Dir :: iv r.2.gate'.Seen.Top :: .int .u64 r.2.gate'.Seen.Bits :: .string r.2.gate'.Peer.Addr :: iv r.2.gate'.Peer.Seq :: v2 :: iv r.2.dir' :: iv r.2.seq' :: tlA) TT0]) := by
 refine fc_of fun E hs => ?_;unfold side_side_Peer.m at H;refine fn_of2 (rs := [.cell 2 58]) (N := 8) Tryz.func46 rfl rfl rfl rfl ?_;refine st 2 [] (k_op (nA hs [.string (⟨#[]⟩ : ByteArray), iv 0] (.agg #[.string (⟨#[]⟩ : ByteArray), iv 0]) ?_));intro b1 h hs;refine st 7 [] (k_op (lN (hs.bl d1) 5 2 ?_));refine k_op (sN0 hs [.string x0.gate'.Peer.Addr, iv x0.gate'.Peer.Seq] (ones_of rfl) ?_);intro h hs;obtain rfl := si H;exact st 1 [] (k_retQ ⟨[.agg #[.string x0.gate'.Peer.Addr, iv x0.gate'.Peer.Seq]], (.cons (.agg (by kernel_rfl) (by kernel_rfl) (by kernel_rfl) ((hs.bl d0).seg_ 0 2 (Nat.le_of_ble_eq_true rfl))) .nil), I, _, ⟨rfl, rfl⟩, hs.pk (.c d1 .n)⟩)
def net_Air_Tick_1.m (x0 : net_flight) (x1 : (List api_Mail)) : Option (Bool × (List api_Mail)) :=
  (if x0.to' = 0 then ((app x1 [x0.m']).bind fun l0 => (some ((x0.to' == 0), l0))) else none)
theorem net_Air_Tick_1.calls {B I : Gh} {h : Heap} {x0 : net_flight} {x1 : (List api_Mail)} {a0 : Option Addr} {p0 : Nat} {n0 : Nat} {b0 : Nat} {a1 : Option Addr} {p1 : Nat} {n1 : Nat} {r : (Bool × (List api_Mail))} (H : net_Air_Tick_1.m x0 x1 = some r)  :
    Fc Tryz.prog 136 #[.agg (cl_net_flight x0 a0 n0 p0).toArray, pv b0] [rB b0 [.slice a1 n1 p1] 105, rO t_api_Mail .i a1 p1 n1 x1, rR (tInt .u8) .i a0 p0 n0 x0.m'.Bytes] B I h (fun v L => ∃ a3 p3 n2, v = .bool r.1 ∧ L = [rB b0 [.slice a3 n2 p3] 105, rO t_api_Mail .i a3 p3 n2 r.2]) := by
 refine fc_of fun E hs => ?_;unfold net_Air_Tick_1.m at H;cases hs.nO d1;cases hs.nR d2;refine fn_of (rs := [.tmp 3]) (N := 15) Tryz.func136 rfl rfl rfl rfl ?_;refine st 2 [] (k_op (nB hs (cl_net_flight x0 a0 x0.m'.Bytes.length p0) ?_));intro b1 h hs;refine st 6 [] (k_op (lB (hs.bl d0) 4 rfl ?_));refine k_ite H (fun c0 H => ?_) (fun c0 H => ?_);rotate_left
 ·cases H
 refine st 3 [true] (k_op (lB (hs.bl d1) 0 rfl ?_));refine st 1 [] (k_op (lN (hs.bl d0) 0 4 ?_));refine k_op (nS (e := 166) hs .i t_api_Mail ([x0.m'] : List api_Mail) (cl_api_Mail x0.m' a0 x0.m'.Bytes.length p0) 4 (.agg #[.string (⟨#[]⟩ : ByteArray), iv 0, .string (⟨#[]⟩ : ByteArray), .slice none 0 0]) (Reps.cons (T := t_api_Mail) (c := (cl_api_Mail x0.m' a0 x0.m'.Bytes.length p0)) (x := x0.m') ⟨_, _, _, rfl, (hs.g d3)⟩ (.nil : Reps t_api_Mail (Cl.G .i E.B I) h [] [])) ?_);intro b2 h hs;replace hs := (hs.f d3);obtain ⟨l0, m0, H⟩ := bind_some H;refine k_op (aO (e := 166) (bytes := 64) hs (hs.sO d1) m0 ?_);intro a2 p2 h hs;refine k_op (sB (v := .slice a2 l0.length p2) (hs.f d3) cw0 ?_);intro h hs;refine st 4 [] (k_op (lB (hs.bl d3) 4 rfl ?_));obtain rfl := si H;exact st 3 [] (k_retQ ⟨_, by kernel_rfl, I, _, ⟨a2, p2, l0.length, rfl, rfl⟩, hs.pk (.c d0 (.c d0 .n))⟩)
end Go.Proofs.YtfkdbplnjlkcdaaGreatDoor.Sx
