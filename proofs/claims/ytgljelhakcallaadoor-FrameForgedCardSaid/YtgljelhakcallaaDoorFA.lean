/- Plain facts on package frame: what Seal answers. -/
import Derived.Test.YtgljelhakcallaaDoorPY
namespace Go.Proofs.YtgljelhakcallaaDoor.Sx
open Go
set_option maxRecDepth 100000

/-- The bytes of a number. -/
def sb (q i : Int) : Int := IntKind.u8.wrap (shr .i64 q (56 - 8 * i))
def sbs (q : Int) : Nat → Int → List Int
  | 0, _ => []
  | m + 1, i => sb q i :: sbs q m (i + 1)
theorem sbs_len (q : Int) : ∀ m i, (sbs q m i).length = m
  | 0, _ => rfl
  | m + 1, i => by unfold sbs; rw [List.length_cons, sbs_len q m]
theorem sbs_wf (q : Int) : ∀ m i, ∀ y ∈ sbs q m i, Wf .u8 y
  | 0, _, y, h => by cases h
  | m + 1, i, y, h => by
    unfold sbs at h
    rcases List.mem_cons.1 h with rfl | h
    · exact wf_wrap8 _
    · exact sbs_wf q m _ y h
/-- What a tag is told of. -/
def txt (f : api_Frame) : List Int := 1 :: IntKind.u8.wrap f.Dir :: (sbs f.Seq 8 0 ++ f.Body)
def sealT (k : List Int) (f : api_Frame) : List Int := txt f ++ sub (hmac k (txt f)) 0 16
def okF (f : api_Frame) : Prop := (f.Dir = 0 ∨ f.Dir = 1) ∧ 1 ≤ f.Seq ∧ f.Seq ≤ 4611686018427387904
instance (f : api_Frame) : Decidable (okF f) := by unfold okF; exact inferInstance
def sealF (k : List Int) (f : api_Frame) : List Int × GoErr :=
  if okF f then (if f.Body.length > 486 then ([], .no 6) else (sealT k f, .nil)) else ([], .no 1)
theorem txt_wf {f : api_Frame} (wb : ∀ y ∈ f.Body, Wf .u8 y) : ∀ y ∈ txt f, Wf .u8 y := by
  intro y hy
  unfold txt at hy
  rcases List.mem_cons.1 hy with rfl | hy
  · exact wf_num (by omega) (by omega)
  · rcases List.mem_cons.1 hy with rfl | hy
    · exact wf_wrap8 _
    · exact bytes_app (sbs_wf _ _ _) wb y hy
theorem txt_len (f : api_Frame) : (txt f).length = 10 + f.Body.length := by
  unfold txt; rw [List.length_cons, List.length_cons, List.length_append, sbs_len]; omega
theorem tag_len {k t : List Int} (wk : ∀ y ∈ k, Wf .u8 y) (wt : ∀ y ∈ t, Wf .u8 y) : (sub (hmac k t) 0 16).length = 16 := by
  have := (hmac_ok wk wt).1
  rw [sub_length (by omega)]; rfl
theorem sub_ok {l : List Int} (wl : ∀ y ∈ l, Wf .u8 y) (lo hi : Int) : ∀ y ∈ sub l lo hi, Wf .u8 y := fun y hy => by
  unfold sub at hy; exact wl y (List.mem_of_mem_drop (List.mem_of_mem_take hy))
theorem sealT_ok {k : List Int} {f : api_Frame} (wk : ∀ y ∈ k, Wf .u8 y) (wb : ∀ y ∈ f.Body, Wf .u8 y) : (sealT k f).length = 26 + f.Body.length ∧ ∀ y ∈ sealT k f, Wf .u8 y := by
  unfold sealT
  have w := txt_wf wb
  refine ⟨by rw [List.length_append, tag_len wk w, txt_len]; omega, bytes_app w (sub_ok (hmac_ok wk w).2 _ _)⟩

theorem seal_prog {f : api_Frame} : ∀ (k : Nat) (x : List Int) (i : Int), 0 ≤ i → i ≤ 8 → 8 - i < (k : Int) → x.length ≤ 1000 + i.toNat →
    frame_Seal.l1.m KK f k x i = some (x ++ sbs f.Seq (8 - i).toNat i) := by
  intro k
  induction k with
  | zero => intro x i _ _ h; omega
  | succ k ih =>
    intro x i i0 i1 hk hx
    rw [frame_Seal.l1.m]
    simp only [letJ]
    by_cases h3 : i < 8
    · have q : w64 (8 * i) = 8 * i := w64_id (by omega) (by omega)
      have q2 : w64 (56 - 8 * i) = 56 - 8 * i := w64_id (by omega) (by omega)
      rw [if_pos h3, cond_true, q, q2, if_pos (by omega), app_ok (by simp; omega), Option.bind_some, w64_id (n := i + 1) (by omega) (by omega), ih _ (i + 1) (by omega) (by omega) (by omega) (by simp; omega),
        show (8 - i).toNat = (8 - (i + 1)).toNat + 1 by omega]
      conv => rhs; unfold sbs
      rw [List.append_assoc]; rfl
    · rw [if_neg h3, cond_false, show (8 - i).toNat = 0 by omega]
      unfold sbs; simp
theorem seal_ref {f : api_Frame} (h0 : 0 ≤ f.Seq) (h1 : f.Seq ≤ 4611686018427387904) : ∀ (k : Nat) (x : List Int) (i : Int), 0 ≤ i → i ≤ 8 → 8 - i < (k : Int) → x.length ≤ 1000 + i.toNat →
    shutterref19_Seal.l1.m KK f k x (7 - i) = some (x ++ sbs f.Seq (8 - i).toNat i) := by
  intro k
  induction k with
  | zero => intro x i _ _ h; omega
  | succ k ih =>
    intro x i i0 i1 hk hx
    rw [shutterref19_Seal.l1.m]
    by_cases h3 : i < 8
    · have q : w64 (8 * (7 - i)) = 56 - 8 * i := by rw [w64_id (by omega) (by omega)]; omega
      have q2 : IntKind.u64.wrap (56 - 8 * i) = 56 - 8 * i := by rw [wrap_u64]; omega
      have q3 : w64 (7 - i - 1) = 7 - (i + 1) := by rw [w64_id (by omega) (by omega)]; omega
      have e : IntKind.u8.wrap (bAnd .i64 (shr .i64 f.Seq (56 - 8 * i)) 255) = sb f.Seq i := by
        have := shr_le (k := .i64) (x := f.Seq) (n := 56 - 8 * i) h0
        rw [mod_and this.1 (by omega)]; rfl
      rw [if_pos (by omega), q, q2, if_pos (by omega), e, app_ok (by simp; omega), Option.bind_some, q3, ih _ (i + 1) (by omega) (by omega) (by omega) (by simp; omega),
        show (8 - i).toNat = (8 - (i + 1)).toNat + 1 by omega]
      conv => rhs; unfold sbs
      rw [List.append_assoc]; rfl
    · rw [if_neg (by omega), show (8 - i).toNat = 0 by omega]
      unfold sbs; simp

theorem seal_eq {k : List Int} {f : api_Frame} (hk : k.length ≤ 1000) (wk : ∀ y ∈ k, Wf .u8 y) (wb : ∀ y ∈ f.Body, Wf .u8 y) : frame_Seal.m KK k f = some (sealF k f) := by
  unfold frame_Seal.m frame_sided.m frame_numbered.m sealF
  simp only [letJ]
  have yes : okF f → (if (f.Body.length : Int) > 486 then (some ([], (GoErr.no 6))) else ((frame_Seal.l1.m KK f KK [1, (IntKind.u8.wrap (f.Dir))] 0).bind fun x44 => ((app x44 f.Body).bind fun l63 => ((mac_Tag.m KK k [l63]).bind fun t70 => ((app l63 t70).bind fun l74 => (some (l74, GoErr.nil))))))) = some (if f.Body.length > 486 then (([] : List Int), GoErr.no 6) else (sealT k f, .nil)) := by
    intro _
    by_cases hb : f.Body.length > 486
    · rw [if_pos (by omega), if_pos hb]
    · rw [if_neg (by omega), if_neg hb, seal_prog KK _ 0 (by omega) (by omega) (by unfold KK; omega) (by simp), Option.bind_some, app_ok (by simp [sbs_len]; omega), Option.bind_some]
      have e : [1, IntKind.u8.wrap f.Dir] ++ sbs f.Seq (8 - (0 : Int)).toNat 0 ++ f.Body = txt f := by unfold txt; simp
      have fl : [txt f].flatten = txt f := by simp
      have tl := txt_len f
      rw [e, tag_eq (by omega) wk (by simp) (by rw [fl]; omega) (by rw [fl]; exact txt_wf wb), Option.bind_some, fl, app_ok (by rw [tag_len wk (txt_wf wb)]; omega), Option.bind_some]
      rfl
  by_cases ok : okF f
  · rw [if_pos ok]
    obtain ⟨hd, h1, h2⟩ := ok
    have hn : (if f.Seq ≥ 1 then (some (decide (f.Seq ≤ 4611686018427387904))) else (some false)) = some true := by rw [if_pos h1, decide_eq_true h2]
    rcases hd with hd | hd
    · rw [hd, if_pos rfl, Option.bind_some, cond_true, hn, Option.bind_some, cond_true, cond_false]
      have := yes ⟨.inl hd, h1, h2⟩; rw [hd] at this; exact this
    · rw [hd, if_neg (by omega), Option.bind_some, show ((1 : Int) == 1) = true from rfl, cond_true, hn, Option.bind_some, cond_true, cond_false]
      have := yes ⟨.inr hd, h1, h2⟩; rw [hd] at this; exact this
  · rw [if_neg ok]
    by_cases hd : f.Dir = 0 ∨ f.Dir = 1
    · have hn : (if f.Seq ≥ 1 then (some (decide (f.Seq ≤ 4611686018427387904))) else (some false)) = some false := by
        by_cases h1 : f.Seq ≥ 1
        · rw [if_pos h1, decide_eq_false]; exact fun h2 => ok ⟨hd, h1, h2⟩
        · rw [if_neg h1]
      have hs : (if f.Dir = 0 then some true else some (f.Dir == 1)) = some true := by
        rcases hd with hd | hd
        · rw [if_pos hd]
        · rw [hd]; rfl
      rw [hs, Option.bind_some, cond_true, hn, Option.bind_some, cond_false, cond_true]
    · have hs : (if f.Dir = 0 then some true else some (f.Dir == 1)) = some false := by
        rw [if_neg (fun h => hd (.inl h))]; congr 1; exact beq_eq_false_iff_ne.2 (fun h => hd (.inr h))
      rw [hs, Option.bind_some, cond_false, cond_true]
theorem sealref_eq {k : List Int} {f : api_Frame} (hk : k.length ≤ 1000) (wk : ∀ y ∈ k, Wf .u8 y) (wb : ∀ y ∈ f.Body, Wf .u8 y) (ok : okF f) (hb : f.Body.length ≤ 1000) : shutterref19_Seal.m KK k f = some (sealT k f) := by
  unfold shutterref19_Seal.m
  have h := seal_ref (f := f) (by have := ok.2.1; omega) ok.2.2 KK [1, IntKind.u8.wrap f.Dir] 0 (by omega) (by omega) (by unfold KK; omega) (by simp)
  have e : [1, IntKind.u8.wrap f.Dir] ++ sbs f.Seq (8 - (0 : Int)).toNat 0 ++ f.Body = txt f := by unfold txt; simp
  have tl := txt_len f
  have h' : shutterref19_Seal.l1.m KK f KK [1, IntKind.u8.wrap f.Dir] 7 = _ := h
  rw [h', Option.bind_some, app_ok (by simp [sbs_len]; omega), Option.bind_some, e, reftag_eq (by omega) wk (by omega) (txt_wf wb), Option.bind_some, app_ok (by rw [tag_len wk (txt_wf wb)]; omega), Option.bind_some]
  rfl
def wrongOf (f : api_Frame) : Int := if okF f then (if f.Body.length > 486 then 6 else 0) else 1
theorem wrong_eq (f : api_Frame) : shutterref19_Wrong.m f = some (wrongOf f) := by
  unfold shutterref19_Wrong.m wrongOf
  have rest : (f.Dir = 0 ∨ f.Dir = 1) → (if f.Seq < 1 then (some 1) else (if f.Seq > 4611686018427387904 then (some 1) else (if (f.Body.length : Int) > 486 then (some 6) else (some 0)))) = some (if okF f then (if f.Body.length > 486 then (6 : Int) else 0) else 1) := by
    intro hd
    by_cases h1 : f.Seq < 1
    · have n : ¬ okF f := fun o => by have := o.2.1; omega
      rw [if_pos h1, if_neg n]
    · by_cases h2 : f.Seq > 4611686018427387904
      · have n : ¬ okF f := fun o => by have := o.2.2; omega
        rw [if_neg h1, if_pos h2, if_neg n]
      · have o : okF f := ⟨hd, by omega, by omega⟩
        rw [if_neg h1, if_neg h2, if_pos o]
        by_cases h3 : f.Body.length > 486
        · rw [if_pos (by omega), if_pos h3]
        · rw [if_neg (by omega), if_neg h3]
  by_cases h0 : f.Dir = 0
  · rw [if_pos h0]; exact rest (.inl h0)
  · rw [if_neg h0]
    by_cases h00 : f.Dir = 1
    · rw [if_pos h00]; exact rest (.inr h00)
    · have n : ¬ okF f := fun o => o.1.elim h0 h00
      rw [if_neg h00, if_neg n]
end Go.Proofs.YtgljelhakcallaaDoor.Sx
