import Derived.Test.YtjkbhpokboolpaaGreatDoorSxL
import Derived.Test.YtjkbhpokboolpaaGreatDoorGE
import Derived.Test.YtjkbhpokboolpaaGreatDoorVR
import Derived.Test.YtjkbhpokboolpaaGreatDoorQA
namespace Go.Proofs.YtjkbhpokboolpaaGreatDoor.sideKeeps
open Go Go.ChangeShapes Go.WideShapes Go.ChangeAt Go.RowKit Sx
set_option maxRecDepth 100000 in
theorem contract (H : Type) (enc : TypeId × Value → H) (W : World) (base : Nat) (args : Array Value) (ds gs : List (DataW H)) (before : List MemPlace)
    (hval : ∀ (j : Nat) t v, Tryz.f5.params[j]? = some t → args[j]? = some v → Value.okWide Tryz.prog W .any base t v)
    (hW : DataW.Whole enc Tryz.prog Tryz.f5.params.toList Rows.sideKeepsSpec.vars false W args.toList ds gs before) (hL : laidMetH Tryz.prog Rows.sideKeepsRow.laid W) :
    Calls Tryz.prog 5 args W fun e W' => ∃ v, e = .returned v ∧ Rows.sideKeepsSpec.post enc Tryz.prog Tryz.f5 false true false false W args v W' := by
  have hW' := hW
  obtain ⟨p, q, hA0, hV, hps, hfz, hnd⟩ := hW
  have hA : DataW.TrodAll enc Tryz.prog W 0 (fun _ => true) true Tryz.f5.params.toList args.toList ds p := hA0
  rw [Tryz.params5] at hA hval
  clear hA0
  obtain ⟨v0, vs0, d0, ds0, p0, q0, hargs, rfl, rfl, h0, r0⟩ := trodAll_cons hA
  obtain ⟨v1, vs1, d1, ds1, p1, q1, rfl, rfl, rfl, h1, r1⟩ := trodAll_cons r0
  obtain ⟨rfl, rfl, rfl⟩ := trodAll_nil r1
  obtain rfl : args = #[v0, v1] := by cases args; simp_all
  obtain ⟨rfl, rfl⟩ := trodVars_none hV
  obtain ⟨a0, c0, x0, rfl, rd0, w0, m0, n0⟩ := open_sl (e := 5) (elt_int (k := .u8) (t := 5) (P := Tryz.prog) (by kernel_rfl) (by kernel_rfl)) (by kernel_rfl) (hval 0 31 v0 rfl rfl) h0
  obtain ⟨cs1, x1, rfl, rp1, w1⟩ := open_struct (t := 80) (fs := Tryz.prog.fieldsOf 80) elt_api_Key (by kernel_rfl) (hval 1 80 v1 rfl rfl) h1
  have ec1 := t_api_Key.open_ rp1
  obtain rfl : cs1 = #[.int .i64 x1.Kind, .int .u8 x1.Char] := by cases cs1; simpa using ec1
  have hm : shutterlaw25_SideKeeps.m KK x0 x1 = some true := SideKeeps_true x0 x1 w0 (Nat.le_trans n0 m0) w1
  have hpl : Pl (I0 W) W.heap [rR (tInt .u8) .b _ _ _ _, rG] := (.c (r := rR (tInt .u8) .b _ _ _ _) ⟨rd0.mono (fun _ y => .inl y), rfl⟩ pl_no (.c (r := rG) (glob_of hL) pl_no .n))
  refine ((shutterlaw25_SideKeeps.calls (B := No) (I := I0 W) (h := W.heap) hm ) (hpl.st (bd_I0 W)) W rfl).mono ?_
  rintro e W' ⟨v, rfl, hs, I', L, ⟨rfl, rfl⟩, hp⟩
  exact ⟨_, rfl, post_true (tb := 4) laidOut rowedMaps slicesPos (by rw [Tryz.params5]; decide +kernel) (by kernel_rfl) (by kernel_rfl) rfl hW' rfl (hp.pst.weaken fun b x => .inl (hpl.no b x)) hs⟩
set_option maxRecDepth 100000 in
theorem lifted (os : Os) (started : os.Started) (H : Type) (enc : TypeId × Value → H) (F : Stop.Interp) :
    ReturnsInHanded {} Tryz.checked os 5 .any ((OpenSpec.ofChange Rows.sideKeepsSpec).preRow enc Tryz.prog Tryz.f5 Rows.sideKeepsRow.domain false Rows.sideKeepsRow.laid) (((OpenSpec.ofChange Rows.sideKeepsSpec).at F).post enc Tryz.prog Tryz.f5 false true false false) := by
  refine returnsInHanded_of_row (C := Tryz.checked) (s := OpenSpec.ofChange Rows.sideKeepsSpec) own started (by kernel_rfl) Tryz.func5
    (witness_row_at (enc := enc) (C := Tryz.checked) false (laidWorld os) #[.slice none 0 0, .agg #[.int .i64 0, .int .u8 0]] rfl (by kernel_rfl) (by kernel_rfl) (by kernel_rfl)
      (OpenSpec.preRow_of_cond 8 (x := ([.nil, .agg [.lit (.int .i64 0), .lit (.int .u8 0)]], [], [])) (by kernel_rfl) (by kernel_rfl) (fun k hk => by cases hk) (by kernel_rfl) (laidWorld_met os _))) ?_
  intro W base args ds gs before hval hW _ _ _ hL _ _
  exact contract H enc W base args ds gs before hval hW hL
theorem andI {a b : Bool} (h1 : a = true) (h2 : b = true) : (a && b) = true := by rw [h1, h2]; rfl
set_option maxHeartbeats 400000000 in
theorem closed : joinedFacts Tryz.pinned.checked.prog 5 Tryz.f5 (OpenSpec.ofChange Rows.sideKeepsSpec).bare Rows.sideKeepsRow = true := by
  unfold joinedFacts
  repeat' with_reducible refine andI ?_ ?_
  all_goals as_aux_lemma => kernel_rfl
theorem said : Rows.SideKeepsSaid :=
  OpenClaim.holds_of_cond 5 Tryz.f5 rfl rfl rfl rfl rfl rfl rfl ⟨rfl, rfl, rfl, rfl, rfl⟩ rfl rfl rfl rfl rfl (by kernel_rfl) Tryz.func5 closed
    (of_decide_eq_true (by kernel_rfl)) (by unfold Func.isWrapper; first | (rw [if_pos (by decide +kernel)]; kernel_rfl) | (rw [if_neg (by decide +kernel)]; exact ⟨rfl, rfl⟩))
    (fun os started H enc _ F => by rw [OpenClaim.pre_eq_preRow]; exact lifted os started H enc F)
theorem plain (f : FuncId) (fn : Func) (hf : Tryz.pinned.checked.prog.funcNamed "shutter/shutterlaw25.SideKeeps" = some f) (hfn : Tryz.pinned.checked.prog.funcs[f]? = some fn) :
    Tryz.pinned.checked.prog.looks [] = Tryz.pinned.checked.prog.looks [] ∧ ∀ (j : Nat) t, fn.params[j]? = some t → Tryz.pinned.checked.prog.wantsStandIn t = false := by
  obtain rfl : f = 5 := Option.some.inj ((show Tryz.prog.funcNamed "shutter/shutterlaw25.SideKeeps" = some 5 by kernel_rfl).symm.trans hf) |>.symm
  obtain rfl : fn = Tryz.f5 := (Option.some.inj (Tryz.func5.symm.trans hfn)).symm
  refine ⟨rfl, fun j t ht => ?_⟩
  rw [Tryz.params5] at ht
  have hall : ∀ t ∈ (#[31, 80] : Array TypeId), Tryz.prog.wantsStandIn t = false := by
    intro t ht
    simp only [List.mem_toArray, List.mem_cons, List.not_mem_nil, or_false] at ht
    rcases ht with rfl | rfl <;> kernel_rfl
  exact hall t (Array.mem_of_getElem? ht)
theorem card : Rows.SideKeepsCardSaid :=
  Claim7.holds_tied_plain_at .later [] _ _ _ _ said (fun _ h => by cases h) (by kernel_rfl) (fun _ h => by cases h) sideKeeps_row_tie rfl ⟨rfl, rfl⟩ (by kernel_rfl) rfl (fun f fn hf hfn => ⟨by kernel_rfl, (plain f fn hf hfn).2⟩) (by kernel_rfl)
end Go.Proofs.YtjkbhpokboolpaaGreatDoor.sideKeeps
