/- Plain facts on package mac: its codes are the document's. -/
import Derived.Test.YtpkcckaaocannaaDoorPX
namespace Go.Proofs.YtpkcckaaocannaaDoor.Sx
open Go
set_option maxRecDepth 100000

def keyOf (k : List Int) : List Int := if 64 < k.length then sha k else k
def kpad (k : List Int) : List Int := keyOf k ++ List.replicate (64 - (keyOf k).length) 0
def xk (k : List Int) (v : Int) : List Int := (kpad k).map fun b => bXor .u8 b v
def hmac (k t : List Int) : List Int := sha (xk k 92 ++ sha (xk k 54 ++ t))

theorem keyOf_ok {k : List Int} (wk : ∀ y ∈ k, Wf .u8 y) : (keyOf k).length ≤ 64 ∧ ∀ y ∈ keyOf k, Wf .u8 y := by
  unfold keyOf
  split
  · have := sha_wf wk; exact ⟨by omega, this.2⟩
  · exact ⟨by omega, wk⟩
theorem kpad_ok {k : List Int} (wk : ∀ y ∈ k, Wf .u8 y) : (kpad k).length = 64 ∧ ∀ y ∈ kpad k, Wf .u8 y := by
  have := keyOf_ok wk
  unfold kpad
  refine ⟨by rw [List.length_append, List.length_replicate]; omega, bytes_app this.2 fun y hy => ?_⟩
  obtain rfl := List.eq_of_mem_replicate hy
  exact wf_num (by omega) (by omega)
theorem xor_wf (x y : Int) : Wf .u8 (bXor .u8 x y) := by unfold bXor; exact wf_wrap8 _
theorem xk_ok {k : List Int} (wk : ∀ y ∈ k, Wf .u8 y) (v : Int) : (xk k v).length = 64 ∧ ∀ y ∈ xk k v, Wf .u8 y := by
  unfold xk
  refine ⟨by rw [List.length_map]; exact (kpad_ok wk).1, fun y hy => ?_⟩
  obtain ⟨z, _, rfl⟩ := List.mem_map.1 hy
  exact xor_wf _ _
theorem hmac_ok {k t : List Int} (wk : ∀ y ∈ k, Wf .u8 y) (wt : ∀ y ∈ t, Wf .u8 y) : (hmac k t).length = 32 ∧ ∀ y ∈ hmac k t, Wf .u8 y := by
  unfold hmac
  exact sha_wf (bytes_app (xk_ok wk 92).2 (sha_wf (bytes_app (xk_ok wk 54).2 wt)).2)

theorem turn_loop (v : Int) {l0 : List Int} (h0 : l0.length = 64) : ∀ (k : Nat) (l : List Int) (i : Int), 0 ≤ i → i ≤ 64 → 64 - i < (k : Int) → l.length = 64 →
    mac_turned.l1.m KK v l0 k l i = some (l.take i.toNat ++ (l.drop i.toNat).map fun b => bXor .u8 b v) := by
  intro k
  induction k with
  | zero => intro l i _ _ h; omega
  | succ k ih =>
    intro l i i0 i1 hk hl
    rw [mac_turned.l1.m]
    simp only [letJ]
    by_cases h3 : i < 64
    · rw [if_pos (by omega), cond_true, if_pos i0, if_pos (by omega), w64_id (n := i + 1) (by omega) (by omega), ih _ (i + 1) (by omega) (by omega) (by omega) (by rw [List.length_set]; exact hl)]
      rw [show (i + 1).toNat = i.toNat + 1 by omega, take_set (by omega), List.drop_set_of_lt (by omega), drop_at (l := l) i0 (by omega), List.map_cons, List.append_assoc, show (i + 1).toNat = i.toNat + 1 by omega]; rfl
    · have : i = 64 := by omega
      subst this
      rw [if_neg (by omega), cond_false, List.take_of_length_le (by rw [hl]; decide), List.drop_eq_nil_of_le (by rw [hl]; decide)]; simp
theorem cpy_pad {k : List Int} (h : k.length ≤ 64) : cpy (List.replicate 64 (0 : Int)) k = k ++ List.replicate (64 - k.length) 0 := by
  unfold cpy; rw [List.length_replicate, List.take_of_length_le h, List.drop_replicate]
theorem turned_eq {k : List Int} (hk : k.length ≤ 100000) (wk : ∀ y ∈ k, Wf .u8 y) (v : Int) : mac_turned.m KK k v = some (xk k v) := by
  have rest : ∀ x : List Int, x.length ≤ 64 → ((mk 64 (0 : Int)).bind fun l41 => ((mac_turned.l1.m KK v l41 KK (cpy l41 x) 0).bind fun x52 => (some x52))) = some ((x ++ List.replicate (64 - x.length) 0).map fun b => bXor .u8 b v) := by
    intro x hx
    have e : mk 64 (0 : Int) = some (List.replicate 64 0) := by unfold mk Lim; rw [if_pos (by omega)]; rfl
    rw [e, Option.bind_some, cpy_pad hx, turn_loop v (List.length_replicate ..) KK _ 0 (by omega) (by omega) (by unfold KK; omega) (by rw [List.length_append, List.length_replicate]; omega), Option.bind_some]
    simp
  unfold mac_turned.m
  simp only [letJ]
  by_cases h : (k.length : Int) > 64
  · have s := sha_wf wk
    have f : [k].flatten = k := by simp
    rw [if_pos h, cond_true, hash_eq (ps := [k]) (by simp) (by rw [f]; exact hk) (by rw [f]; exact wk), Option.bind_some, f, rest _ (by omega)]
    unfold xk kpad keyOf; rw [if_pos (by omega)]
  · rw [if_neg h, cond_false, rest _ (by omega)]
    unfold xk kpad keyOf; rw [if_neg (by omega)]
theorem code_eq {k : List Int} {ps : List (List Int)} (hk : k.length ≤ 100000) (wk : ∀ y ∈ k, Wf .u8 y) (hp : ps.length ≤ 1000) (hf : ps.flatten.length ≤ 10000) (wp : ∀ y ∈ ps.flatten, Wf .u8 y) : mac_Code.m KK k ps = some (hmac k ps.flatten) := by
  have a1 := xk_ok wk 54
  have a2 := xk_ok wk 92
  have h1 : (xk k 54 :: ps).flatten = xk k 54 ++ ps.flatten := rfl
  have w1 := bytes_app a1.2 wp
  have s1 := sha_wf w1
  have h2 : [xk k 92, sha (xk k 54 ++ ps.flatten)].flatten = xk k 92 ++ sha (xk k 54 ++ ps.flatten) := by simp
  have i1 : slices_Insert_byte.m ps 0 [xk k 54] = some (xk k 54 :: ps) := by
    unfold slices_Insert_byte.m ins0 app Lim
    rw [if_pos rfl, if_pos (show ([xk k 54] : List (List Int)).length = 1 from rfl), if_pos (by simp only [List.length_cons, List.length_nil]; omega)]; rfl
  have c1 : slices_Clone_byte.m ps = some ps := by
    unfold slices_Clone_byte.m app Lim
    rw [if_pos (by simp only [List.length_nil]; omega)]; rfl
  unfold mac_Code.m
  rw [c1, Option.bind_some, turned_eq hk wk, Option.bind_some, i1, Option.bind_some, hash_eq (by simp only [List.length_cons]; omega) (by rw [h1, List.length_append]; omega) (by rw [h1]; exact w1), Option.bind_some, turned_eq hk wk, Option.bind_some, h1,
    hash_eq (by simp) (by rw [h2, List.length_append]; omega) (by rw [h2]; exact bytes_app a2.2 s1.2), Option.bind_some, h2]
  unfold hmac
  rfl
theorem tag_eq {k : List Int} {ps : List (List Int)} (hk : k.length ≤ 100000) (wk : ∀ y ∈ k, Wf .u8 y) (hp : ps.length ≤ 1000) (hf : ps.flatten.length ≤ 10000) (wp : ∀ y ∈ ps.flatten, Wf .u8 y) : mac_Tag.m KK k ps = some (sub (hmac k ps.flatten) 0 16) := by
  unfold mac_Tag.m; rw [code_eq hk wk hp hf wp, Option.bind_some]

theorem fill64 : ∀ (k : Nat) (x : List Int), x.length ≤ 64 → 64 - x.length < k → shutterref02_Code.l1.m KK k x = some (x ++ List.replicate (64 - x.length) 0) := by
  intro k
  induction k with
  | zero => intro x _ h; omega
  | succ k ih =>
    intro x hx h
    rw [shutterref02_Code.l1.m]
    by_cases h3 : (x.length : Int) < 64
    · rw [if_pos h3, app_ok (by simp; omega), Option.bind_some, ih (x ++ [0]) (by simp; omega) (by simp; omega)]
      rw [show 64 - x.length = (64 - (x ++ [0]).length) + 1 by simp; omega, List.replicate_succ, List.append_assoc]; rfl
    · rw [if_neg h3, show 64 - x.length = 0 by omega]; simp
theorem xors {l : List Int} (hl : l.length = 64) : ∀ (k : Nat) (a b : List Int) (i : Int), 0 ≤ i → i ≤ 64 → 64 - i < (k : Int) → a.length ≤ 100 + i.toNat → b.length ≤ 100 + i.toNat →
    shutterref02_Code.l2.m KK l k a b i = some (a ++ (l.drop i.toNat).map (fun x => bXor .u8 x 54), b ++ (l.drop i.toNat).map (fun x => bXor .u8 x 92)) := by
  intro k
  induction k with
  | zero => intro a b i _ _ h; omega
  | succ k ih =>
    intro a b i i0 i1 hk ha hb
    rw [shutterref02_Code.l2.m]
    by_cases h3 : i < 64
    · rw [if_pos h3, if_pos i0, if_pos (by omega), app_ok (by simp; omega), Option.bind_some, app_ok (by simp; omega), Option.bind_some, w64_id (n := i + 1) (by omega) (by omega), ih _ _ (i + 1) (by omega) (by omega) (by omega) (by simp; omega) (by simp; omega),
        drop_at (l := l) i0 (by omega), List.map_cons, List.map_cons, List.append_assoc, List.append_assoc]; rfl
    · rw [if_neg h3, List.drop_eq_nil_of_le (by omega)]; simp
theorem refcode_eq {k t : List Int} (hk : k.length ≤ 100000) (wk : ∀ y ∈ k, Wf .u8 y) (ht : t.length ≤ 10000) (wt : ∀ y ∈ t, Wf .u8 y) : shutterref02_Code.m KK k t = some (hmac k t) := by
  have a1 := xk_ok wk 54
  have a2 := xk_ok wk 92
  have w1 := bytes_app a1.2 wt
  have s1 := sha_wf w1
  have rest : ∀ x, x = keyOf k → ((shutterref02_Code.l1.m KK KK x).bind fun x64 => ((shutterref02_Code.l2.m KK x64 KK [] [] 0).bind fun (x91, x96) => ((app x91 t).bind fun l120 => ((shutterref01_Of.m KK l120).bind fun t125 => ((app x96 t125).bind fun l129 => ((shutterref01_Of.m KK l129).bind fun t134 => (some t134))))))) = some (hmac k t) := by
    rintro x rfl
    have ko := keyOf_ok wk
    rw [fill64 KK _ ko.1 (by unfold KK; omega), Option.bind_some, xors (l := keyOf k ++ List.replicate (64 - (keyOf k).length) 0) (kpad_ok wk).1 KK [] [] 0 (by omega) (by omega) (by unfold KK; omega) (by simp) (by simp), Option.bind_some]
    simp only [Int.toNat_zero, List.drop_zero, List.nil_append]
    have e1 : List.map (fun x => bXor .u8 x 54) (keyOf k ++ List.replicate (64 - (keyOf k).length) 0) = xk k 54 := rfl
    have e2 : List.map (fun x => bXor .u8 x 92) (keyOf k ++ List.replicate (64 - (keyOf k).length) 0) = xk k 92 := rfl
    rw [e1, e2, app_ok (by omega), Option.bind_some, ref_eq (by rw [List.length_append]; omega) w1, Option.bind_some, app_ok (by omega), Option.bind_some, ref_eq (by rw [List.length_append]; omega) (bytes_app a2.2 s1.2), Option.bind_some]
    unfold hmac
    rfl
  unfold shutterref02_Code.m
  simp only [letJ]
  rw [app_ok (by simp; omega), Option.bind_some, List.nil_append]
  by_cases h : (k.length : Int) > 64
  · have s := sha_wf wk
    rw [if_pos h, cond_true, ref_eq hk wk, Option.bind_some, app_ok (by simp; omega), Option.bind_some, List.nil_append]
    exact rest _ (by unfold keyOf; rw [if_pos (by omega)])
  · rw [if_neg h, cond_false]
    exact rest _ (by unfold keyOf; rw [if_neg (by omega)])
theorem reftag_eq {k t : List Int} (hk : k.length ≤ 100000) (wk : ∀ y ∈ k, Wf .u8 y) (ht : t.length ≤ 10000) (wt : ∀ y ∈ t, Wf .u8 y) : shutterref02_Tag.m KK k t = some (sub (hmac k t) 0 16) := by
  unfold shutterref02_Tag.m
  have h := (hmac_ok wk wt).1
  have hl : (sub (hmac k t) 0 16).length = 16 := by rw [sub_length (by omega)]; rfl
  rw [refcode_eq hk wk ht wt, Option.bind_some, app_ok (by simp; omega), Option.bind_some, List.nil_append]
end Go.Proofs.YtpkcckaaocannaaDoor.Sx
