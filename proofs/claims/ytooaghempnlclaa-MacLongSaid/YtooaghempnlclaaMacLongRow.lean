/- MacLong holds of the given program for every input: it answers true, and its arguments read as they did. Conditions: those of the given row (its laid variable, where it lists one, is tied to the text by the given tie). -/
import Derived.Test.YtooaghempnlclaaSxK
import Derived.Test.YtooaghempnlclaaGE
import Derived.Test.YtooaghempnlclaaVR
import Derived.Test.YtooaghempnlclaaPZ
namespace Go.Proofs.Ytooaghempnlclaa.macLong
open Go Go.ChangeShapes Go.WideShapes Go.ChangeAt Go.RowKit Sx

set_option maxRecDepth 100000 in
theorem contract (H : Type) (enc : TypeId × Value → H) (W : World) (base : Nat) (args : Array Value) (ds gs : List (DataW H)) (before : List MemPlace)
    (hval : ∀ (j : Nat) t v, Try.f7.params[j]? = some t → args[j]? = some v → Value.okWide Try.prog W .any base t v)
    (hW : DataW.Whole enc Try.prog Try.f7.params.toList Rows.macLongSpec.vars false W args.toList ds gs before) (_hL : laidMetH Try.prog Rows.macLongRow.laid W) :
    Calls Try.prog 7 args W fun e W' => ∃ v, e = .returned v ∧ Rows.macLongSpec.post enc Try.prog Try.f7 false true false false W args v W' := by
  have hW' := hW
  obtain ⟨p, q, hA0, hV, hps, hfz, hnd⟩ := hW
  have hA : DataW.TrodAll enc Try.prog W 0 (fun _ => true) true Try.f7.params.toList args.toList ds p := hA0
  rw [Try.params7] at hA hval
  clear hA0
  obtain ⟨v0, vs0, d0, ds0, p0, q0, hargs, rfl, rfl, h0, r0⟩ := trodAll_cons hA
  obtain ⟨v1, vs1, d1, ds1, p1, q1, rfl, rfl, rfl, h1, r1⟩ := trodAll_cons r0
  obtain ⟨v2, vs2, d2, ds2, p2, q2, rfl, rfl, rfl, h2, r2⟩ := trodAll_cons r1
  obtain ⟨rfl, rfl, rfl⟩ := trodAll_nil r2
  obtain rfl : args = #[v0, v1, v2] := by cases args; simp_all
  obtain ⟨rfl, rfl⟩ := trodVars_none hV
  obtain ⟨a0, c0, x0, rfl, rd0, w0, m0, n0⟩ := open_sl (e := 5) (elt_int (k := .u8) (t := 5) (P := Try.prog) (by kernel_rfl) (by kernel_rfl)) (by kernel_rfl) (hval 0 22 v0 rfl rfl) h0
  obtain ⟨x1, rfl, rfl, rfl, w1⟩ := open_int (k := .u8) (by kernel_rfl) (hval 1 5 v1 rfl rfl) h1
  obtain ⟨a2, c2, x2, rfl, rd2, w2, m2, n2⟩ := open_sl (e := 5) (elt_int (k := .u8) (t := 5) (P := Try.prog) (by kernel_rfl) (by kernel_rfl)) (by kernel_rfl) (hval 2 22 v2 rfl rfl) h2
  have hm : shutterlaw02_MacLong.m KK x0 x1 x2 = some true := MacLong_true x0 x1 x2 w0 (Nat.le_trans n0 m0) w1 w2 (Nat.le_trans n2 m2)
  have hpl : Pl (I0 W) W.heap [rR (tInt .u8) .b _ _ _ _, rR (tInt .u8) .i _ _ _ _] := (.c (r := rR (tInt .u8) .b _ _ _ _) ⟨rd0.mono (fun _ y => .inl y), rfl⟩ pl_no (.c (r := rR (tInt .u8) .i _ _ _ _) ⟨rd2, rfl⟩ pl_no .n))
  refine ((shutterlaw02_MacLong.calls (B := No) (I := I0 W) (h := W.heap) hm ) (hpl.st (bd_I0 W)) W rfl).mono ?_
  rintro e W' ⟨v, rfl, hs, I', L, ⟨rfl, rfl⟩, hp⟩
  exact ⟨_, rfl, post_true (tb := 4) laidOut rowedMaps slicesPos (by rw [Try.params7]; decide +kernel) (by kernel_rfl) (by kernel_rfl) rfl hW' rfl (hp.pst.weaken fun b x => .inl (hpl.no b x)) hs⟩

set_option maxRecDepth 100000 in
theorem lifted (os : Os) (started : os.Started) (H : Type) (enc : TypeId × Value → H) (F : Stop.Interp) :
    ReturnsInHanded {} Try.checked os 7 .any ((OpenSpec.ofChange Rows.macLongSpec).preRow enc Try.prog Try.f7 Rows.macLongRow.domain false Rows.macLongRow.laid) (((OpenSpec.ofChange Rows.macLongSpec).at F).post enc Try.prog Try.f7 false true false false) := by
  refine returnsInHanded_of_row (C := Try.checked) (s := OpenSpec.ofChange Rows.macLongSpec) own started (by kernel_rfl) Try.func7
    (witness_row_at (enc := enc) (C := Try.checked) false (laidWorld os) #[.slice none 0 0, .int .u8 0, .slice none 0 0] rfl (by kernel_rfl) (by kernel_rfl) (by kernel_rfl)
      (OpenSpec.preRow_of_cond 8 (x := ([.nil, .lit (.int .u8 0), .nil], [], [])) (by kernel_rfl) (by kernel_rfl) (fun k hk => by cases hk) (by kernel_rfl) (laidWorld_met os _))) ?_
  intro W base args ds gs before hval hW _ _ _ hL _ _
  exact contract H enc W base args ds gs before hval hW hL

theorem said : Rows.MacLongSaid :=
  OpenClaim.holds_of_cond 7 Try.f7 rfl rfl rfl rfl rfl rfl rfl ⟨rfl, rfl, rfl, rfl, rfl⟩ rfl rfl rfl rfl rfl (by kernel_rfl) Try.func7 (by kernel_rfl)
    (of_decide_eq_true (by kernel_rfl)) (by unfold Func.isWrapper; first | (rw [if_pos (by decide +kernel)]; kernel_rfl) | (rw [if_neg (by decide +kernel)]; exact ⟨rfl, rfl⟩))
    (fun os started H enc _ F => by rw [OpenClaim.pre_eq_preRow]; exact lifted os started H enc F)

end Go.Proofs.Ytooaghempnlclaa.macLong
