/- ReadImage holds of the given program for every input: it answers true, and its arguments read as they did. Conditions: those of the given row (its laid variable, where it lists one, is tied to the text by the given tie). -/
import Derived.Test.YtfbcjibdgicaoaaGreatDoorSxL
import Derived.Test.YtfbcjibdgicaoaaGreatDoorGE
import Derived.Test.YtfbcjibdgicaoaaGreatDoorVR
import Derived.Test.YtfbcjibdgicaoaaGreatDoorRI
namespace Go.Proofs.YtfbcjibdgicaoaaGreatDoor.readImage
open Go Go.ChangeShapes Go.WideShapes Go.ChangeAt Go.RowKit Sx

set_option maxRecDepth 100000 in
theorem contract (H : Type) (enc : TypeId × Value → H) (W : World) (base : Nat) (args : Array Value) (ds gs : List (DataW H)) (before : List MemPlace)
    (hval : ∀ (j : Nat) t v, Tryz.f5.params[j]? = some t → args[j]? = some v → Value.okWide Tryz.prog W .any base t v)
    (hW : DataW.Whole enc Tryz.prog Tryz.f5.params.toList Rows.readImageSpec.vars false W args.toList ds gs before) (hL : laidMetH Tryz.prog Rows.readImageRow.laid W) :
    Calls Tryz.prog 5 args W fun e W' => ∃ v, e = .returned v ∧ Rows.readImageSpec.post enc Tryz.prog Tryz.f5 false true false false W args v W' := by
  have hW' := hW
  obtain ⟨p, q, hA0, hV, hps, hfz, hnd⟩ := hW
  have hA : DataW.TrodAll enc Tryz.prog W 0 (fun _ => true) true Tryz.f5.params.toList args.toList ds p := hA0
  rw [Tryz.params5] at hA hval
  clear hA0
  obtain ⟨v0, vs0, d0, ds0, p0, q0, hargs, rfl, rfl, h0, r0⟩ := trodAll_cons hA
  obtain ⟨rfl, rfl, rfl⟩ := trodAll_nil r0
  obtain rfl : args = #[v0] := by cases args; simp_all
  obtain ⟨rfl, rfl⟩ := trodVars_none hV
  obtain ⟨cs0, x0, rfl, rp0, w0⟩ := open_struct (t := 24) (fs := Tryz.prog.fieldsOf 24) elt_api_Screen (by kernel_rfl) (hval 0 24 v0 rfl rfl) h0
  obtain ⟨u0_0, u0_1, u0_2, ec0, fq0_0⟩ := t_api_Screen.open_ rp0
  obtain rfl : cs0 = #[.int .i64 x0.Rows, .int .i64 x0.Cols, .slice u0_0 u0_2 u0_1, .int .i64 x0.Cursor, .bool x0.Locked, .bool x0.Insert] := by cases cs0; simpa using ec0
  have hm : shutterlaw18_ReadImage.m KK x0 = some true := ReadImage_true x0 w0
  have hpl : Pl (I0 W) W.heap [rR t_api_Cell .b _ _ _ _, rG] := (.c (r := rR t_api_Cell .b _ _ _ _) ⟨fq0_0.1.mono (fun _ y => .inl y), fq0_0.2⟩ pl_no (.c (r := rG) (glob_of hL) pl_no .n))
  refine ((shutterlaw18_ReadImage.calls (B := No) (I := I0 W) (h := W.heap) hm ) (hpl.st (bd_I0 W)) W rfl).mono ?_
  rintro e W' ⟨v, rfl, hs, I', L, ⟨rfl, rfl⟩, hp⟩
  exact ⟨_, rfl, post_true (tb := 4) laidOut rowedMaps slicesPos (by rw [Tryz.params5]; decide +kernel) (by kernel_rfl) (by kernel_rfl) rfl hW' rfl (hp.pst.weaken fun b x => .inl (hpl.no b x)) hs⟩

set_option maxRecDepth 100000 in
theorem lifted (os : Os) (started : os.Started) (H : Type) (enc : TypeId × Value → H) (F : Stop.Interp) :
    ReturnsInHanded {} Tryz.checked os 5 .any ((OpenSpec.ofChange Rows.readImageSpec).preRow enc Tryz.prog Tryz.f5 Rows.readImageRow.domain false Rows.readImageRow.laid) (((OpenSpec.ofChange Rows.readImageSpec).at F).post enc Tryz.prog Tryz.f5 false true false false) := by
  refine returnsInHanded_of_row (C := Tryz.checked) (s := OpenSpec.ofChange Rows.readImageSpec) own started (by kernel_rfl) Tryz.func5
    (witness_row_at (enc := enc) (C := Tryz.checked) false (laidWorld os) #[.agg #[.int .i64 0, .int .i64 0, .slice none 0 0, .int .i64 0, .bool false, .bool false]] rfl (by kernel_rfl) (by kernel_rfl) (by kernel_rfl)
      (OpenSpec.preRow_of_cond 8 (x := ([.agg [.lit (.int .i64 0), .lit (.int .i64 0), .nil, .lit (.int .i64 0), .lit (.bool false), .lit (.bool false)]], [], [])) (by kernel_rfl) (by kernel_rfl) (fun k hk => by cases hk) (by kernel_rfl) (laidWorld_met os _))) ?_
  intro W base args ds gs before hval hW _ _ _ hL _ _
  exact contract H enc W base args ds gs before hval hW hL

theorem said : Rows.ReadImageSaid :=
  OpenClaim.holds_of_cond 5 Tryz.f5 rfl rfl rfl rfl rfl rfl rfl ⟨rfl, rfl, rfl, rfl, rfl⟩ rfl rfl rfl rfl rfl (by kernel_rfl) Tryz.func5 (by kernel_rfl)
    (of_decide_eq_true (by kernel_rfl)) (by unfold Func.isWrapper; first | (rw [if_pos (by decide +kernel)]; kernel_rfl) | (rw [if_neg (by decide +kernel)]; exact ⟨rfl, rfl⟩))
    (fun os started H enc _ F => by rw [OpenClaim.pre_eq_preRow]; exact lifted os started H enc F)

theorem plain (f : FuncId) (fn : Func) (hf : Tryz.pinned.checked.prog.funcNamed "shutter/shutterlaw18.ReadImage" = some f) (hfn : Tryz.pinned.checked.prog.funcs[f]? = some fn) :
    Tryz.pinned.checked.prog.looks [] = Tryz.pinned.checked.prog.looks [] ∧ ∀ (j : Nat) t, fn.params[j]? = some t → Tryz.pinned.checked.prog.wantsStandIn t = false := by
  obtain rfl : f = 5 := Option.some.inj ((show Tryz.prog.funcNamed "shutter/shutterlaw18.ReadImage" = some 5 by kernel_rfl).symm.trans hf) |>.symm
  obtain rfl : fn = Tryz.f5 := (Option.some.inj (Tryz.func5.symm.trans hfn)).symm
  refine ⟨rfl, fun j t ht => ?_⟩
  rw [Tryz.params5] at ht
  have hall : ∀ t ∈ (#[24] : Array TypeId), Tryz.prog.wantsStandIn t = false := by
    intro t ht
    simp only [List.mem_toArray, List.mem_cons, List.not_mem_nil, or_false] at ht
    rcases ht with rfl <;> kernel_rfl
  exact hall t (Array.mem_of_getElem? ht)

theorem card : Rows.ReadImageCardSaid :=
  Claim7.holds_tied_plain_at .later [] _ _ _ _ said (fun _ h => by cases h) (by kernel_rfl) (fun _ h => by cases h) readImage_row_tie rfl ⟨rfl, rfl⟩ (by kernel_rfl) rfl (fun f fn hf hfn => ⟨by kernel_rfl, (plain f fn hf hfn).2⟩) (by kernel_rfl)
end Go.Proofs.YtfbcjibdgicaoaaGreatDoor.readImage
