/- OrderLengths holds of the given program for every input: it answers true, and its arguments read as they did. Conditions: those of the given row (its laid variable, where it lists one, is tied to the text by the given tie). -/
import Derived.Test.YtociikgdocjfnaaSxK
import Derived.Test.YtociikgdocjfnaaGE
import Derived.Test.YtociikgdocjfnaaPJ
namespace Go.Proofs.Ytociikgdocjfnaa.orderLengths
open Go Go.ChangeShapes Go.WideShapes Go.ChangeAt Go.RowKit Sx

set_option maxRecDepth 100000 in
theorem contract (H : Type) (enc : TypeId × Value → H) (W : World) (base : Nat) (args : Array Value) (ds gs : List (DataW H)) (before : List MemPlace)
    (hval : ∀ (j : Nat) t v, Try.f5.params[j]? = some t → args[j]? = some v → Value.okWide Try.prog W .any base t v)
    (hW : DataW.Whole enc Try.prog Try.f5.params.toList Rows.orderLengthsSpec.vars false W args.toList ds gs before) (_hL : laidMetH Try.prog Rows.orderLengthsRow.laid W) :
    Calls Try.prog 5 args W fun e W' => ∃ v, e = .returned v ∧ Rows.orderLengthsSpec.post enc Try.prog Try.f5 false true false false W args v W' := by
  have hW' := hW
  obtain ⟨p, q, hA0, hV, hps, hfz, hnd⟩ := hW
  have hA : DataW.TrodAll enc Try.prog W 0 (fun _ => true) true Try.f5.params.toList args.toList ds p := hA0
  rw [Try.params5] at hA hval
  clear hA0
  obtain ⟨v0, vs0, d0, ds0, p0, q0, hargs, rfl, rfl, h0, r0⟩ := trodAll_cons hA
  obtain ⟨v1, vs1, d1, ds1, p1, q1, rfl, rfl, rfl, h1, r1⟩ := trodAll_cons r0
  obtain ⟨rfl, rfl, rfl⟩ := trodAll_nil r1
  obtain rfl : args = #[v0, v1] := by cases args; simp_all
  obtain ⟨rfl, rfl⟩ := trodVars_none hV
  obtain ⟨cs0, x0, rfl, rp0, w0⟩ := open_struct (t := 26) (fs := Try.prog.fieldsOf 26) elt_api_Order (by kernel_rfl) (hval 0 26 v0 rfl rfl) h0
  obtain ⟨u0_0, u0_1, ec0, fq0_0⟩ := t_api_Order.open_ rp0
  obtain rfl : cs0 = #[.int .i64 x0.Kind, .slice u0_0 x0.Text.length u0_1, .bool x0.Attr.Protected, .bool x0.Attr.Numeric, .int .i64 x0.Attr.Show, .bool x0.Attr.Modified, .int .i64 x0.Addr, .int .u8 x0.Char] := by cases cs0; simpa using ec0
  obtain ⟨x1, rfl, rfl, rfl, w1⟩ := open_int (k := .u16) (by kernel_rfl) (hval 1 27 v1 rfl rfl) h1
  have hm : shutterlaw07_OrderLengths.m KK x0 x1 = some true := OrderLengths_true x0 x1 w0 w1
  have hr := shutterlaw07_OrderLengths.calls (bd_I0 W) fq0_0 hm
  refine (hr W rfl).mono ?_
  rintro e W' ⟨v, rfl, hs, I', rfl, hp⟩
  exact ⟨_, rfl, post_true (tb := 4) laidOut rowedMaps slicesPos (by rw [Try.params5]; decide +kernel) (by kernel_rfl) (by kernel_rfl) rfl hW' rfl hp hs⟩

set_option maxRecDepth 100000 in
theorem lifted (os : Os) (started : os.Started) (H : Type) (enc : TypeId × Value → H) (F : Stop.Interp) :
    ReturnsInHanded {} Try.checked os 5 .any ((OpenSpec.ofChange Rows.orderLengthsSpec).preRow enc Try.prog Try.f5 Rows.orderLengthsRow.domain false Rows.orderLengthsRow.laid) (((OpenSpec.ofChange Rows.orderLengthsSpec).at F).post enc Try.prog Try.f5 false true false false) := by
  refine returnsInHanded_of_row (C := Try.checked) (s := OpenSpec.ofChange Rows.orderLengthsSpec) own started (by kernel_rfl) Try.func5
    (witness_row_at (enc := enc) (C := Try.checked) false (laidWorld os) #[.agg #[.int .i64 0, .slice none 0 0, .bool false, .bool false, .int .i64 0, .bool false, .int .i64 0, .int .u8 0], .int .u16 0] rfl (by kernel_rfl) (by kernel_rfl) (by kernel_rfl)
      (OpenSpec.preRow_of_cond 8 (x := ([.agg [.lit (.int .i64 0), .nil, .agg [.lit (.bool false), .lit (.bool false), .lit (.int .i64 0), .lit (.bool false)], .lit (.int .i64 0), .lit (.int .u8 0)], .lit (.int .u16 0)], [], [])) (by kernel_rfl) (by kernel_rfl) (fun k hk => by cases hk) (by kernel_rfl) (laidWorld_met os _))) ?_
  intro W base args ds gs before hval hW _ _ _ hL _ _
  exact contract H enc W base args ds gs before hval hW hL

theorem said : Rows.OrderLengthsSaid :=
  OpenClaim.holds_of_cond 5 Try.f5 rfl rfl rfl rfl rfl rfl rfl ⟨rfl, rfl, rfl, rfl, rfl⟩ rfl rfl rfl rfl rfl (by kernel_rfl) Try.func5 (by kernel_rfl)
    (of_decide_eq_true (by kernel_rfl)) (by unfold Func.isWrapper; first | (rw [if_pos (by decide +kernel)]; kernel_rfl) | (rw [if_neg (by decide +kernel)]; exact ⟨rfl, rfl⟩))
    (fun os started H enc _ F => by rw [OpenClaim.pre_eq_preRow]; exact lifted os started H enc F)

end Go.Proofs.Ytociikgdocjfnaa.orderLengths
