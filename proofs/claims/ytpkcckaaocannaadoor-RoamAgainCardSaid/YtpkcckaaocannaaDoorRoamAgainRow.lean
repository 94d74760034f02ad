/- RoamAgain holds of the given program for every input: it answers true, and its arguments read as they did. Conditions: those of the given row (its laid variable, where it lists one, is tied to the text by the given tie). -/
import Derived.Test.YtpkcckaaocannaaDoorSxL
import Derived.Test.YtpkcckaaocannaaDoorGE
import Derived.Test.YtpkcckaaocannaaDoorVR
import Derived.Test.YtpkcckaaocannaaDoorRB
namespace Go.Proofs.YtpkcckaaocannaaDoor.roamAgain
open Go Go.ChangeShapes Go.WideShapes Go.ChangeAt Go.RowKit Sx

set_option maxRecDepth 100000 in
theorem contract (H : Type) (enc : TypeId × Value → H) (W : World) (base : Nat) (args : Array Value) (ds gs : List (DataW H)) (before : List MemPlace)
    (hval : ∀ (j : Nat) t v, Tryd.f9.params[j]? = some t → args[j]? = some v → Value.okWide Tryd.prog W .any base t v)
    (hW : DataW.Whole enc Tryd.prog Tryd.f9.params.toList Rows.roamAgainSpec.vars false W args.toList ds gs before) (hL : laidMetH Tryd.prog Rows.roamAgainRow.laid W) :
    Calls Tryd.prog 9 args W fun e W' => ∃ v, e = .returned v ∧ Rows.roamAgainSpec.post enc Tryd.prog Tryd.f9 false true false false W args v W' := by
  have hW' := hW
  obtain ⟨p, q, hA0, hV, hps, hfz, hnd⟩ := hW
  have hA : DataW.TrodAll enc Tryd.prog W 0 (fun _ => true) true Tryd.f9.params.toList args.toList ds p := hA0
  rw [Tryd.params9] at hA hval
  clear hA0
  obtain ⟨v0, vs0, d0, ds0, p0, q0, hargs, rfl, rfl, h0, r0⟩ := trodAll_cons hA
  obtain ⟨v1, vs1, d1, ds1, p1, q1, rfl, rfl, rfl, h1, r1⟩ := trodAll_cons r0
  obtain ⟨v2, vs2, d2, ds2, p2, q2, rfl, rfl, rfl, h2, r2⟩ := trodAll_cons r1
  obtain ⟨v3, vs3, d3, ds3, p3, q3, rfl, rfl, rfl, h3, r3⟩ := trodAll_cons r2
  obtain ⟨v4, vs4, d4, ds4, p4, q4, rfl, rfl, rfl, h4, r4⟩ := trodAll_cons r3
  obtain ⟨rfl, rfl, rfl⟩ := trodAll_nil r4
  obtain rfl : args = #[v0, v1, v2, v3, v4] := by cases args; simp_all
  obtain ⟨rfl, rfl⟩ := trodVars_none hV
  obtain ⟨a0, c0, x0, rfl, rd0, w0, m0, n0⟩ := open_sl (e := 5) (elt_int (k := .u8) (t := 5) (P := Tryd.prog) (by kernel_rfl) (by kernel_rfl)) (by kernel_rfl) (hval 0 47 v0 rfl rfl) h0
  obtain ⟨x1, rfl, rfl, rfl, w1⟩ := open_int (k := .u32) (by kernel_rfl) (hval 1 76 v1 rfl rfl) h1
  obtain ⟨x2, rfl, rfl, rfl, z2⟩ := Go.ChangeMaps.open_string (by kernel_rfl) (hval 2 9 v2 rfl rfl) h2
  obtain ⟨x3, rfl, rfl, rfl, z3⟩ := Go.ChangeMaps.open_string (by kernel_rfl) (hval 3 9 v3 rfl rfl) h3
  obtain ⟨a4, c4, x4, rfl, rd4, w4, m4, n4⟩ := open_sl (e := 5) (elt_int (k := .u8) (t := 5) (P := Tryd.prog) (by kernel_rfl) (by kernel_rfl)) (by kernel_rfl) (hval 4 47 v4 rfl rfl) h4
  have hm : shutterlaw21_RoamAgain.m KK x0 x1 x2 x3 x4 = some true := RoamAgain_true x0 x1 x2 x3 x4 w0 (Nat.le_trans n0 m0) w1 z2 z3 w4 (Nat.le_trans n4 m4)
  have hpl : Pl (I0 W) W.heap [rR (tInt .u8) .i _ _ _ _, rR (tInt .u8) .b _ _ _ _, rG] := (.c (r := rR (tInt .u8) .i _ _ _ _) ⟨rd0, rfl⟩ pl_no (.c (r := rR (tInt .u8) .b _ _ _ _) ⟨rd4.mono (fun _ y => .inl y), rfl⟩ pl_no (.c (r := rG) (glob_of hL) pl_no .n)))
  refine ((shutterlaw21_RoamAgain.calls (B := No) (I := I0 W) (h := W.heap) hm ) (hpl.st (bd_I0 W)) W rfl).mono ?_
  rintro e W' ⟨v, rfl, hs, I', L, ⟨rfl, rfl⟩, hp⟩
  exact ⟨_, rfl, post_true (tb := 4) laidOut rowedMaps slicesPos (by rw [Tryd.params9]; decide +kernel) (by kernel_rfl) (by kernel_rfl) rfl hW' rfl (hp.pst.weaken fun b x => .inl (hpl.no b x)) hs⟩

set_option maxRecDepth 100000 in
theorem lifted (os : Os) (started : os.Started) (H : Type) (enc : TypeId × Value → H) (F : Stop.Interp) :
    ReturnsInHanded {} Tryd.checked os 9 .any ((OpenSpec.ofChange Rows.roamAgainSpec).preRow enc Tryd.prog Tryd.f9 Rows.roamAgainRow.domain false Rows.roamAgainRow.laid) (((OpenSpec.ofChange Rows.roamAgainSpec).at F).post enc Tryd.prog Tryd.f9 false true false false) := by
  refine returnsInHanded_of_row (C := Tryd.checked) (s := OpenSpec.ofChange Rows.roamAgainSpec) own started (by kernel_rfl) Tryd.func9
    (witness_row_at (enc := enc) (C := Tryd.checked) false (laidWorld os) #[.slice none 0 0, .int .u32 0, .string ⟨#[]⟩, .string ⟨#[]⟩, .slice none 0 0] rfl (by kernel_rfl) (by kernel_rfl) (by kernel_rfl)
      (OpenSpec.preRow_of_cond 8 (x := ([.nil, .lit (.int .u32 0), .lit (.string []), .lit (.string []), .nil], [], [])) (by kernel_rfl) (by kernel_rfl) (fun k hk => by cases hk) (by kernel_rfl) (laidWorld_met os _))) ?_
  intro W base args ds gs before hval hW _ _ _ hL _ _
  exact contract H enc W base args ds gs before hval hW hL

theorem said : Rows.RoamAgainSaid :=
  OpenClaim.holds_of_cond 9 Tryd.f9 rfl rfl rfl rfl rfl rfl rfl ⟨rfl, rfl, rfl, rfl, rfl⟩ rfl rfl rfl rfl rfl (by kernel_rfl) Tryd.func9 (by kernel_rfl)
    (of_decide_eq_true (by kernel_rfl)) (by unfold Func.isWrapper; first | (rw [if_pos (by decide +kernel)]; kernel_rfl) | (rw [if_neg (by decide +kernel)]; exact ⟨rfl, rfl⟩))
    (fun os started H enc _ F => by rw [OpenClaim.pre_eq_preRow]; exact lifted os started H enc F)

theorem plain (f : FuncId) (fn : Func) (hf : Tryd.pinned.checked.prog.funcNamed "shutter/shutterlaw21.RoamAgain" = some f) (hfn : Tryd.pinned.checked.prog.funcs[f]? = some fn) :
    Tryd.pinned.checked.prog.looks [] = Tryd.pinned.checked.prog.looks [] ∧ ∀ (j : Nat) t, fn.params[j]? = some t → Tryd.pinned.checked.prog.wantsStandIn t = false := by
  obtain rfl : f = 9 := Option.some.inj ((show Tryd.prog.funcNamed "shutter/shutterlaw21.RoamAgain" = some 9 by kernel_rfl).symm.trans hf) |>.symm
  obtain rfl : fn = Tryd.f9 := (Option.some.inj (Tryd.func9.symm.trans hfn)).symm
  refine ⟨rfl, fun j t ht => ?_⟩
  rw [Tryd.params9] at ht
  have hall : ∀ t ∈ (#[47, 76, 9, 9, 47] : Array TypeId), Tryd.prog.wantsStandIn t = false := by
    intro t ht
    simp only [List.mem_toArray, List.mem_cons, List.not_mem_nil, or_false] at ht
    rcases ht with rfl | rfl | rfl | rfl | rfl <;> kernel_rfl
  exact hall t (Array.mem_of_getElem? ht)

theorem card : Rows.RoamAgainCardSaid :=
  Claim7.holds_tied_plain_at .later [] _ _ _ _ said (fun _ h => by cases h) (by kernel_rfl) (fun _ h => by cases h) roamAgain_row_tie rfl ⟨rfl, rfl⟩ (by kernel_rfl) rfl (fun f fn hf hfn => ⟨by kernel_rfl, (plain f fn hf hfn).2⟩) (by kernel_rfl)
end Go.Proofs.YtpkcckaaocannaaDoor.roamAgain
