/- InputApart holds of the given program for every input: it answers true, and its arguments read as they did. Conditions: those of the given row (its laid variable, where it lists one, is tied to the text by the given tie). -/
import Derived.Test.YtlomgckbmdjmhaaDoorSxL
import Derived.Test.YtlomgckbmdjmhaaDoorGE
import Derived.Test.YtlomgckbmdjmhaaDoorPQ
namespace Go.Proofs.YtlomgckbmdjmhaaDoor.inputApart
open Go Go.ChangeShapes Go.WideShapes Go.ChangeAt Go.RowKit Sx

set_option maxRecDepth 100000 in
theorem contract (H : Type) (enc : TypeId × Value → H) (W : World) (base : Nat) (args : Array Value) (ds gs : List (DataW H)) (before : List MemPlace)
    (hval : ∀ (j : Nat) t v, Tryd.f6.params[j]? = some t → args[j]? = some v → Value.okWide Tryd.prog W .any base t v)
    (hW : DataW.Whole enc Tryd.prog Tryd.f6.params.toList Rows.inputApartSpec.vars false W args.toList ds gs before) (hL : laidMetH Tryd.prog Rows.inputApartRow.laid W) :
    Calls Tryd.prog 6 args W fun e W' => ∃ v, e = .returned v ∧ Rows.inputApartSpec.post enc Tryd.prog Tryd.f6 false true false false W args v W' := by
  have hW' := hW
  obtain ⟨p, q, hA0, hV, hps, hfz, hnd⟩ := hW
  have hA : DataW.TrodAll enc Tryd.prog W 0 (fun _ => true) true Tryd.f6.params.toList args.toList ds p := hA0
  rw [Tryd.params6] at hA hval
  clear hA0
  obtain ⟨v0, vs0, d0, ds0, p0, q0, hargs, rfl, rfl, h0, r0⟩ := trodAll_cons hA
  obtain ⟨v1, vs1, d1, ds1, p1, q1, rfl, rfl, rfl, h1, r1⟩ := trodAll_cons r0
  obtain ⟨v2, vs2, d2, ds2, p2, q2, rfl, rfl, rfl, h2, r2⟩ := trodAll_cons r1
  obtain ⟨rfl, rfl, rfl⟩ := trodAll_nil r2
  obtain rfl : args = #[v0, v1, v2] := by cases args; simp_all
  obtain ⟨rfl, rfl⟩ := trodVars_none hV
  obtain ⟨cs0, x0, rfl, rp0, w0⟩ := open_struct (t := 51) (fs := Tryd.prog.fieldsOf 51) elt_api_In (by kernel_rfl) (hval 0 51 v0 rfl rfl) h0
  obtain ⟨u0_0, u0_1, ec0, fq0_0⟩ := t_api_In.open_ rp0
  obtain rfl : cs0 = #[.int .u8 x0.Aid, .int .i64 x0.Cursor, .slice u0_0 x0.Fields.length u0_1] := by cases cs0; simpa using ec0
  obtain ⟨cs1, x1, rfl, rp1, w1⟩ := open_struct (t := 51) (fs := Tryd.prog.fieldsOf 51) elt_api_In (by kernel_rfl) (hval 1 51 v1 rfl rfl) h1
  obtain ⟨u1_0, u1_1, ec1, fq1_0⟩ := t_api_In.open_ rp1
  obtain rfl : cs1 = #[.int .u8 x1.Aid, .int .i64 x1.Cursor, .slice u1_0 x1.Fields.length u1_1] := by cases cs1; simpa using ec1
  obtain ⟨x2, rfl, rfl, rfl, w2⟩ := open_int (k := .u16) (by kernel_rfl) (hval 2 33 v2 rfl rfl) h2
  have hm : shutterlaw09_InputApart.m KK x0 x1 x2 = some true := InputApart_true x0 x1 x2 w0 w1 w2
  have hr := shutterlaw09_InputApart.calls (bd_I0 W) (glob_of hL) fq0_0 fq1_0 hm
  refine (hr W rfl).mono ?_
  rintro e W' ⟨v, rfl, hs, I', rfl, hp⟩
  exact ⟨_, rfl, post_true (tb := 4) laidOut rowedMaps slicesPos (by rw [Tryd.params6]; decide +kernel) (by kernel_rfl) (by kernel_rfl) rfl hW' rfl hp hs⟩

set_option maxRecDepth 100000 in
theorem lifted (os : Os) (started : os.Started) (H : Type) (enc : TypeId × Value → H) (F : Stop.Interp) :
    ReturnsInHanded {} Tryd.checked os 6 .any ((OpenSpec.ofChange Rows.inputApartSpec).preRow enc Tryd.prog Tryd.f6 Rows.inputApartRow.domain false Rows.inputApartRow.laid) (((OpenSpec.ofChange Rows.inputApartSpec).at F).post enc Tryd.prog Tryd.f6 false true false false) := by
  refine returnsInHanded_of_row (C := Tryd.checked) (s := OpenSpec.ofChange Rows.inputApartSpec) own started (by kernel_rfl) Tryd.func6
    (witness_row_at (enc := enc) (C := Tryd.checked) false (laidWorld os) #[.agg #[.int .u8 0, .int .i64 0, .slice none 0 0], .agg #[.int .u8 0, .int .i64 0, .slice none 0 0], .int .u16 0] rfl (by kernel_rfl) (by kernel_rfl) (by kernel_rfl)
      (OpenSpec.preRow_of_cond 8 (x := ([.agg [.lit (.int .u8 0), .lit (.int .i64 0), .nil], .agg [.lit (.int .u8 0), .lit (.int .i64 0), .nil], .lit (.int .u16 0)], [], [])) (by kernel_rfl) (by kernel_rfl) (fun k hk => by cases hk) (by kernel_rfl) (laidWorld_met os _))) ?_
  intro W base args ds gs before hval hW _ _ _ hL _ _
  exact contract H enc W base args ds gs before hval hW hL

theorem said : Rows.InputApartSaid :=
  OpenClaim.holds_of_cond 6 Tryd.f6 rfl rfl rfl rfl rfl rfl rfl ⟨rfl, rfl, rfl, rfl, rfl⟩ rfl rfl rfl rfl rfl (by kernel_rfl) Tryd.func6 (by kernel_rfl)
    (of_decide_eq_true (by kernel_rfl)) (by unfold Func.isWrapper; first | (rw [if_pos (by decide +kernel)]; kernel_rfl) | (rw [if_neg (by decide +kernel)]; exact ⟨rfl, rfl⟩))
    (fun os started H enc _ F => by rw [OpenClaim.pre_eq_preRow]; exact lifted os started H enc F)

theorem plain (f : FuncId) (fn : Func) (hf : Tryd.pinned.checked.prog.funcNamed "shutter/shutterlaw09.InputApart" = some f) (hfn : Tryd.pinned.checked.prog.funcs[f]? = some fn) :
    Tryd.pinned.checked.prog.looks [] = Tryd.pinned.checked.prog.looks [] ∧ ∀ (j : Nat) t, fn.params[j]? = some t → Tryd.pinned.checked.prog.wantsStandIn t = false := by
  obtain rfl : f = 6 := Option.some.inj ((show Tryd.prog.funcNamed "shutter/shutterlaw09.InputApart" = some 6 by kernel_rfl).symm.trans hf) |>.symm
  obtain rfl : fn = Tryd.f6 := (Option.some.inj (Tryd.func6.symm.trans hfn)).symm
  refine ⟨rfl, fun j t ht => ?_⟩
  rw [Tryd.params6] at ht
  have hall : ∀ t ∈ (#[51, 51, 33] : Array TypeId), Tryd.prog.wantsStandIn t = false := by
    intro t ht
    simp only [List.mem_toArray, List.mem_cons, List.not_mem_nil, or_false] at ht
    rcases ht with rfl | rfl | rfl <;> kernel_rfl
  exact hall t (Array.mem_of_getElem? ht)

theorem card : Rows.InputApartCardSaid :=
  Claim7.holds_tied_plain_at .later [] _ _ _ _ said (fun _ h => by cases h) (by kernel_rfl) (fun _ h => by cases h) inputApart_row_tie rfl ⟨rfl, rfl⟩ (by kernel_rfl) rfl (fun f fn hf hfn => ⟨by kernel_rfl, (plain f fn hf hfn).2⟩) (by kernel_rfl)
end Go.Proofs.YtlomgckbmdjmhaaDoor.inputApart
