/- Plain facts on package frame: what Seal answers. -/
import Derived.Test.YtpkcckaaocannaaDoorPY
namespace Go.Proofs.YtpkcckaaocannaaDoor.Sx
open Go
set_option maxRecDepth 100000

/-- The bytes of a number. -/
def sb (q i : Int) : Int := IntKind.u8.wrap (shr .i64 q (56 - 8 * i))
def sbs (q : Int) : Nat → Int → List Int
  | 0, _ => []
  | m + 1, i => sb q i :: sbs q m (i + 1)
theorem sbs_len (q : Int) : ∀ m i, (sbs q m i).length = m
  | 0, _ => rfl
  | m + 1, i => by unfold sbs; rw [List.length_cons, sbs_len q m]
theorem sbs_wf (q : Int) : ∀ m i, ∀ y ∈ sbs q m i, Wf .u8 y
  | 0, _, y, h => by cases h
  | m + 1, i, y, h => by
    unfold sbs at h
    rcases List.mem_cons.1 h with rfl | h
    · exact wf_wrap8 _
    · exact sbs_wf q m _ y h
/-- What a tag is told of. -/
def txt (f : api_Frame) : List Int := 1 :: IntKind.u8.wrap f.Dir :: (sbs f.Seq 8 0 ++ f.Body)
def sealT (k : List Int) (f : api_Frame) : List Int := txt f ++ sub (hmac k (txt f)) 0 16
def okF (f : api_Frame) : Prop := (f.Dir = 0 ∨ f.Dir = 1) ∧ 1 ≤ f.Seq ∧ f.Seq ≤ 4611686018427387904
instance (f : api_Frame) : Decidable (okF f) := by unfold okF; exact inferInstance
def sealF (k : List Int) (f : api_Frame) : List Int × GoErr :=
  if okF f then (if f.Body.length > 486 then ([], .no 6) else (sealT k f, .nil)) else ([], .no 1)
theorem txt_wf {f : api_Frame} (wb : ∀ y ∈ f.Body, Wf .u8 y) : ∀ y ∈ txt f, Wf .u8 y := by
  intro y hy
  unfold txt at hy
  rcases List.mem_cons.1 hy with rfl | hy
  · exact wf_num (by omega) (by omega)
  · rcases List.mem_cons.1 hy with rfl | hy
    · exact wf_wrap8 _
    · exact bytes_app (sbs_wf _ _ _) wb y hy
theorem txt_len (f : api_Frame) : (txt f).length = 10 + f.Body.length := by
  unfold txt; rw [List.length_cons, List.length_cons, List.length_append, sbs_len]; omega
theorem tag_len {k t : List Int} (wk : ∀ y ∈ k, Wf .u8 y) (wt : ∀ y ∈ t, Wf .u8 y) : (sub (hmac k t) 0 16).length = 16 := by
  have := (hmac_ok wk wt).1
  rw [sub_length (by omega)]; rfl
theorem sub_ok {l : List Int} (wl : ∀ y ∈ l, Wf .u8 y) (lo hi : Int) : ∀ y ∈ sub l lo hi, Wf .u8 y := fun y hy => by
  unfold sub at hy; exact wl y (List.mem_of_mem_drop (List.mem_of_mem_take hy))
theorem sealT_ok {k : List Int} {f : api_Frame} (wk : ∀ y ∈ k, Wf .u8 y) (wb : ∀ y ∈ f.Body, Wf .u8 y) : (sealT k f).length = 26 + f.Body.length ∧ ∀ y ∈ sealT k f, Wf .u8 y := by
  unfold sealT
  have w := txt_wf wb
  refine ⟨by rw [List.length_append, tag_len wk w, txt_len]; omega, bytes_app w (sub_ok (hmac_ok wk w).2 _ _)⟩

theorem seal_ref {f : api_Frame} (h0 : 0 ≤ f.Seq) (h1 : f.Seq ≤ 4611686018427387904) : ∀ (k : Nat) (x : List Int) (i : Int), 0 ≤ i → i ≤ 8 → 8 - i < (k : Int) → x.length ≤ 1000 + i.toNat →
    shutterref19_Seal.l1.m KK f k x (7 - i) = some (x ++ sbs f.Seq (8 - i).toNat i) := by
  intro k
  induction k with
  | zero => intro x i _ _ h; omega
  | succ k ih =>
    intro x i i0 i1 hk hx
    rw [shutterref19_Seal.l1.m]
    by_cases h3 : i < 8
    · have q : w64 (8 * (7 - i)) = 56 - 8 * i := by rw [w64_id (by omega) (by omega)]; omega
      have q2 : IntKind.u64.wrap (56 - 8 * i) = 56 - 8 * i := by rw [wrap_u64]; omega
      have q3 : w64 (7 - i - 1) = 7 - (i + 1) := by rw [w64_id (by omega) (by omega)]; omega
      have e : IntKind.u8.wrap (bAnd .i64 (shr .i64 f.Seq (56 - 8 * i)) 255) = sb f.Seq i := by
        have := shr_le (k := .i64) (x := f.Seq) (n := 56 - 8 * i) h0
        rw [mod_and this.1 (by omega)]; rfl
      rw [if_pos (by omega), q, q2, if_pos (by omega), e, app_ok (by simp; omega), Option.bind_some, q3, ih _ (i + 1) (by omega) (by omega) (by omega) (by simp; omega),
        show (8 - i).toNat = (8 - (i + 1)).toNat + 1 by omega]
      conv => rhs; unfold sbs
      rw [List.append_assoc]; rfl
    · rw [if_neg (by omega), show (8 - i).toNat = 0 by omega]
      unfold sbs; simp

theorem sealref_eq {k : List Int} {f : api_Frame} (hk : k.length ≤ 1000) (wk : ∀ y ∈ k, Wf .u8 y) (wb : ∀ y ∈ f.Body, Wf .u8 y) (ok : okF f) (hb : f.Body.length ≤ 1000) : shutterref19_Seal.m KK k f = some (sealT k f) := by
  unfold shutterref19_Seal.m
  have h := seal_ref (f := f) (by have := ok.2.1; omega) ok.2.2 KK [1, IntKind.u8.wrap f.Dir] 0 (by omega) (by omega) (by unfold KK; omega) (by simp)
  have e : [1, IntKind.u8.wrap f.Dir] ++ sbs f.Seq (8 - (0 : Int)).toNat 0 ++ f.Body = txt f := by unfold txt; simp
  have tl := txt_len f
  have h' : shutterref19_Seal.l1.m KK f KK [1, IntKind.u8.wrap f.Dir] 7 = _ := h
  rw [h', Option.bind_some, app_ok (by simp [sbs_len]; omega), Option.bind_some, e, reftag_eq (by omega) wk (by omega) (txt_wf wb), Option.bind_some, app_ok (by rw [tag_len wk (txt_wf wb)]; omega), Option.bind_some]
  rfl
def wrongOf (f : api_Frame) : Int := if okF f then (if f.Body.length > 486 then 6 else 0) else 1
end Go.Proofs.YtpkcckaaocannaaDoor.Sx

