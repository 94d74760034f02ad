/- MacKeys holds of the given program for every input: it answers true, and its arguments read as they did. Conditions: those of the given row (its laid variable, where it lists one, is tied to the text by the given tie). -/
import Derived.Test.YtooaghempnlclaaSxK
import Derived.Test.YtooaghempnlclaaGE
import Derived.Test.YtooaghempnlclaaVR
import Derived.Test.YtooaghempnlclaaPZ
namespace Go.Proofs.Ytooaghempnlclaa.macKeys
open Go Go.ChangeShapes Go.WideShapes Go.ChangeAt Go.RowKit Sx

set_option maxRecDepth 100000 in
theorem contract (H : Type) (enc : TypeId × Value → H) (W : World) (base : Nat) (args : Array Value) (ds gs : List (DataW H)) (before : List MemPlace)
    (hval : ∀ (j : Nat) t v, Try.f5.params[j]? = some t → args[j]? = some v → Value.okWide Try.prog W .any base t v)
    (hW : DataW.Whole enc Try.prog Try.f5.params.toList Rows.macKeysSpec.vars false W args.toList ds gs before) (_hL : laidMetH Try.prog Rows.macKeysRow.laid W) :
    Calls Try.prog 5 args W fun e W' => ∃ v, e = .returned v ∧ Rows.macKeysSpec.post enc Try.prog Try.f5 false true false false W args v W' := by
  have hW' := hW
  obtain ⟨p, q, hA0, hV, hps, hfz, hnd⟩ := hW
  have hA : DataW.TrodAll enc Try.prog W 0 (fun _ => true) true Try.f5.params.toList args.toList ds p := hA0
  rw [Try.params5] at hA hval
  clear hA0
  obtain ⟨v0, vs0, d0, ds0, p0, q0, hargs, rfl, rfl, h0, r0⟩ := trodAll_cons hA
  obtain ⟨v1, vs1, d1, ds1, p1, q1, rfl, rfl, rfl, h1, r1⟩ := trodAll_cons r0
  obtain ⟨rfl, rfl, rfl⟩ := trodAll_nil r1
  obtain rfl : args = #[v0, v1] := by cases args; simp_all
  obtain ⟨rfl, rfl⟩ := trodVars_none hV
  obtain ⟨a0, c0, x0, rfl, rd0, w0, m0, n0⟩ := open_sl (e := 5) (elt_int (k := .u8) (t := 5) (P := Try.prog) (by kernel_rfl) (by kernel_rfl)) (by kernel_rfl) (hval 0 22 v0 rfl rfl) h0
  obtain ⟨a1, c1, x1, rfl, rd1, w1, m1, n1⟩ := open_sl (e := 22) (elt_sl (t := 22) (elt_int (k := .u8) (t := 5) (P := Try.prog) (by kernel_rfl) (by kernel_rfl)) (by kernel_rfl) (by kernel_rfl)) (by kernel_rfl) (hval 1 33 v1 rfl rfl) h1
  have hm : shutterlaw02_MacKeys.m KK x0 x1 = some true := MacKeys_true x0 x1 w0 (Nat.le_trans n0 m0) w1 (Nat.le_trans n1 m1)
  have hpl : Pl (I0 W) W.heap [rR (tInt .u8) .b _ _ _ _, rR (tSl (tInt .u8)) .i _ _ _ _] := (.c (r := rR (tInt .u8) .b _ _ _ _) ⟨rd0.mono (fun _ y => .inl y), rfl⟩ pl_no (.c (r := rR (tSl (tInt .u8)) .i _ _ _ _) ⟨rd1, rfl⟩ pl_no .n))
  refine ((shutterlaw02_MacKeys.calls (B := No) (I := I0 W) (h := W.heap) hm ) (hpl.st (bd_I0 W)) W rfl).mono ?_
  rintro e W' ⟨v, rfl, hs, I', L, ⟨rfl, rfl⟩, hp⟩
  exact ⟨_, rfl, post_true (tb := 4) laidOut rowedMaps slicesPos (by rw [Try.params5]; decide +kernel) (by kernel_rfl) (by kernel_rfl) rfl hW' rfl (hp.pst.weaken fun b x => .inl (hpl.no b x)) hs⟩

set_option maxRecDepth 100000 in
theorem lifted (os : Os) (started : os.Started) (H : Type) (enc : TypeId × Value → H) (F : Stop.Interp) :
    ReturnsInHanded {} Try.checked os 5 .any ((OpenSpec.ofChange Rows.macKeysSpec).preRow enc Try.prog Try.f5 Rows.macKeysRow.domain false Rows.macKeysRow.laid) (((OpenSpec.ofChange Rows.macKeysSpec).at F).post enc Try.prog Try.f5 false true false false) := by
  refine returnsInHanded_of_row (C := Try.checked) (s := OpenSpec.ofChange Rows.macKeysSpec) own started (by kernel_rfl) Try.func5
    (witness_row_at (enc := enc) (C := Try.checked) false (laidWorld os) #[.slice none 0 0, .slice none 0 0] rfl (by kernel_rfl) (by kernel_rfl) (by kernel_rfl)
      (OpenSpec.preRow_of_cond 8 (x := ([.nil, .nil], [], [])) (by kernel_rfl) (by kernel_rfl) (fun k hk => by cases hk) (by kernel_rfl) (laidWorld_met os _))) ?_
  intro W base args ds gs before hval hW _ _ _ hL _ _
  exact contract H enc W base args ds gs before hval hW hL

theorem said : Rows.MacKeysSaid :=
  OpenClaim.holds_of_cond 5 Try.f5 rfl rfl rfl rfl rfl rfl rfl ⟨rfl, rfl, rfl, rfl, rfl⟩ rfl rfl rfl rfl rfl (by kernel_rfl) Try.func5 (by kernel_rfl)
    (of_decide_eq_true (by kernel_rfl)) (by unfold Func.isWrapper; first | (rw [if_pos (by decide +kernel)]; kernel_rfl) | (rw [if_neg (by decide +kernel)]; exact ⟨rfl, rfl⟩))
    (fun os started H enc _ F => by rw [OpenClaim.pre_eq_preRow]; exact lifted os started H enc F)

end Go.Proofs.Ytooaghempnlclaa.macKeys
