/- Plain facts on package hash: what it answers is the document's sum. -/
import Derived.Test.YtpkcckaaocannaaDoorPW
namespace Go.Proofs.YtpkcckaaocannaaDoor.Sx
open Go
set_option maxRecDepth 100000

theorem dropA {α : Type} [Inhabited α] {l : List α} {i : Int} (h0 : 0 ≤ i) (h1 : i < (l.length : Int)) : l.drop i.toNat = at_ l i :: l.drop (i + 1).toNat := by
  have hlt : i.toNat < l.length := by omega
  rw [List.drop_eq_getElem_cons hlt]
  have e : (i + 1).toNat = i.toNat + 1 := by omega
  rw [e]
  congr 1
  unfold at_; rw [List.getD_eq_getElem?_getD, List.getElem?_eq_getElem hlt]; rfl

theorem addl1 {ps : List (List Int)} : ∀ (k : Nat) (i : Int) (h r : List Int) (n : Int), 0 ≤ i → i ≤ (ps.length : Int) → (ps.length : Int) - i < (k : Int) → ps.length ≤ 1000000 → r.length + (ps.drop i.toNat).flatten.length ≤ 1000000 → 0 ≤ n → n + ((ps.drop i.toNat).flatten.length : Int) ≤ 1000000 → St8 h → (∀ y ∈ r, Wf .u8 y) → (∀ y ∈ (ps.drop i.toNat).flatten, Wf .u8 y) →
    hash_Sum_Add.l1.m KK ps k i (at_ h 0) (at_ h 1) (at_ h 2) (at_ h 3) (at_ h 4) (at_ h 5) (at_ h 6) (at_ h 7) r n =
      some (T10 (FB h (r ++ (ps.drop i.toNat).flatten)).1 (FB h (r ++ (ps.drop i.toNat).flatten)).2 (n + ((ps.drop i.toNat).flatten.length : Int))) ∨ r.length ≥ 64 := by
  intro k
  induction k with
  | zero => intro i h r n h0 h1 h2; omega
  | succ k ih =>
    intro i h r n h0 h1 h2 hps hb hn hn2 kh wr wp
    by_cases hr64 : r.length ≥ 64
    · exact .inr hr64
    refine .inl ?_
    rw [hash_Sum_Add.l1.m]
    simp only [letJ]
    by_cases h3 : i < (ps.length : Int)
    · have hd := dropA h0 h3
      rw [hd, List.flatten_cons, List.length_append] at hb hn2
      rw [hd, List.flatten_cons] at wp ⊢
      have w1 : ∀ y ∈ r ++ at_ ps i, Wf .u8 y := fun y hy => (List.mem_append.1 hy).elim (wr y) (fun z => wp y (List.mem_append_left _ z))
      have hl : (r ++ at_ ps i).length = r.length + (at_ ps i).length := List.length_append
      have hf := FB_st _ h (r ++ at_ ps i) (Nat.le_refl _) kh w1
      rw [if_pos h3, cond_true, if_pos h0, if_pos h3, app_ok (by omega), Option.bind_some, addl2 KK h _ _ (by unfold KK; omega) (by omega) kh w1, Option.bind_some]
      have e1 : IntKind.u64.wrap (n + IntKind.u64.wrap ((at_ ps i).length : Int)) = n + ((at_ ps i).length : Int) := by rw [wrap_u64, wrap_u64]; omega
      rw [w64_id (n := i + 1) (by omega) (by omega), e1]
      have := ih (i + 1) (FB h (r ++ at_ ps i)).1 (FB h (r ++ at_ ps i)).2 (n + ((at_ ps i).length : Int)) (by omega) (by omega) (by omega) hps (by rw [hf.2.2]; omega) (by omega) (by omega) hf.1 hf.2.1 (fun y hy => wp y (List.mem_append_right _ hy))
      rcases this with e | e
      · unfold T10 at e ⊢
        simp only at e ⊢
        rw [e, ← FB_app _ h (r ++ at_ ps i) _ (Nat.le_refl _), List.append_assoc, List.length_append]
        congr 2
        simp only [Prod.mk.injEq, true_and]
        omega
      · rw [hf.2.2] at e; omega
    · have : i = (ps.length : Int) := by omega
      subst this
      rw [if_neg h3, cond_false, Int.toNat_natCast, List.drop_length]
      simp only [List.flatten_nil, List.append_nil, List.length_nil]
      rw [FB_eq, if_neg (by omega)]
      unfold T10; simp
theorem add_eq {h r : List Int} {n : Int} {ps : List (List Int)} (hps : ps.length ≤ 1000000) (hr : r.length < 64) (hb : ps.flatten.length ≤ 900000) (hn : 0 ≤ n) (hn2 : n ≤ 100000) (kh : St8 h) (wr : ∀ y ∈ r, Wf .u8 y) (wp : ∀ y ∈ ps.flatten, Wf .u8 y) :
    hash_Sum_Add.m KK ⟨h, r, n⟩ ps = some ⟨(FB h (r ++ ps.flatten)).1, (FB h (r ++ ps.flatten)).2, n + (ps.flatten.length : Int)⟩ := by
  have hK : (ps.length : Int) - 0 < (KK : Int) := by unfold KK; omega
  have := addl1 (ps := ps) KK 0 h r n (by omega) (by omega) hK hps (by simp only [Int.toNat_zero, List.drop_zero]; omega) hn (by simp only [Int.toNat_zero, List.drop_zero]; omega) kh wr (by simpa using wp)
  rcases this with e | e
  · unfold hash_Sum_Add.m
    simp only [Int.toNat_zero, List.drop_zero] at e
    rw [e, Option.bind_some]
    unfold T10
    simp only
    have k2 := (FB_st _ h (r ++ ps.flatten) (Nat.le_refl _) kh (fun y hy => (List.mem_append.1 hy).elim (wr y) (wp y))).1
    rw [at8 k2.len]
  · omega

def H0 : List Int := [1779033703, 3144134277, 1013904242, 2773480762, 1359893119, 2600822924, 528734635, 1541459225]
theorem new_eq : hash_New.m KK = some ⟨H0, [], 0⟩ := by kernel_rfl
theorem init_eq : shutterref01_Of.l1.m KK KK 0 (List.replicate 8 (0 : Int)) = some H0 := by kernel_rfl
theorem st_H0 : St8 H0 := ⟨rfl, by unfold H0 Wd; simp only [List.mem_cons, List.not_mem_nil, or_false, forall_eq_or_imp, forall_eq]; omega⟩

/-- The bytes of a length. -/
def lb (n i : Int) : Int := IntKind.u8.wrap (shr .u64 (8 * n) (56 - 8 * i))
def lbs (n : Int) : Nat → Int → List Int
  | 0, _ => []
  | m + 1, i => lb n i :: lbs n m (i + 1)
theorem lbs_len (n : Int) : ∀ m i, (lbs n m i).length = m
  | 0, _ => rfl
  | m + 1, i => by unfold lbs; rw [List.length_cons, lbs_len n m]
theorem wf_wrap8 (n : Int) : Wf .u8 (IntKind.u8.wrap n) := by
  rw [wrap_u8]
  have h0 : 0 ≤ n % 256 := by omega
  have h1 : n % 256 < 256 := by omega
  generalize n % 256 = m at *
  obtain ⟨m, rfl⟩ := Int.eq_ofNat_of_zero_le h0
  have : m < 256 := by omega
  unfold Wf Lit.wf
  simp [IntKind.min, IntKind.max, IntKind.signed, IntKind.bits]
  omega
theorem lbs_wf (n : Int) : ∀ m i, ∀ y ∈ lbs n m i, Wf .u8 y
  | 0, _, y, h => by cases h
  | m + 1, i, y, h => by
    unfold lbs at h
    rcases List.mem_cons.1 h with rfl | h
    · exact wf_wrap8 _
    · exact lbs_wf n m _ y h

def zs (n : Nat) : Nat := (120 - (n + 1) % 64) % 64
def padL (n : Nat) : List Int := 128 :: (List.replicate (zs n) 0 ++ lbs (n : Int) 8 0)
theorem wf_num {n : Int} (h0 : 0 ≤ n) (h1 : n ≤ 255) : Wf .u8 n := by
  have := wf_wrap8 n
  rwa [wrap_u8, Int.emod_eq_of_lt h0 (by omega)] at this
theorem padL_wf (n : Nat) : ∀ y ∈ padL n, Wf .u8 y := by
  intro y hy
  unfold padL at hy
  rcases List.mem_cons.1 hy with rfl | hy
  · exact wf_num (by omega) (by omega)
  · rcases List.mem_append.1 hy with hy | hy
    · obtain rfl := List.eq_of_mem_replicate hy
      exact wf_num (by omega) (by omega)
    · exact lbs_wf _ _ _ y hy
theorem padL_len (n : Nat) : (n + (padL n).length) % 64 = 0 ∧ (padL n).length ≤ 100 := by
  unfold padL
  rw [List.length_cons, List.length_append, List.length_replicate, lbs_len]
  unfold zs; omega

theorem fuel_mono1 {r : List Int} (hr : r.length < 64) {p : List Int} (hp : p.length ≤ 100) : hash_Sum_End.l1.m KK r KK p = some (p ++ List.replicate ((120 - (r.length + p.length) % 64) % 64) 0) := by
  have go : ∀ (k : Nat) (p : List Int), p.length ≤ 1000 → (120 - (r.length + p.length) % 64) % 64 < k → p.length + (120 - (r.length + p.length) % 64) % 64 ≤ 1000 →
      hash_Sum_End.l1.m KK r k p = some (p ++ List.replicate ((120 - (r.length + p.length) % 64) % 64) 0) := by
    intro k
    induction k with
    | zero => intro p _ h; omega
    | succ k ih =>
      intro p hp h h2
      rw [hash_Sum_End.l1.m, w64_id (by omega) (by omega), Int.tmod_eq_emod_of_nonneg (by omega)]
      by_cases h56 : ((r.length : Int) + (p.length : Int)) % 64 = 56
      · rw [if_pos h56]
        have : (120 - (r.length + p.length) % 64) % 64 = 0 := by omega
        rw [this]; simp
      · have e : (120 - (r.length + p.length) % 64) % 64 = (120 - (r.length + (p ++ [0]).length) % 64) % 64 + 1 := by simp only [List.length_append, List.length_cons, List.length_nil]; omega
        rw [if_neg h56, app_ok (by simp; omega), Option.bind_some, ih (p ++ [0]) (by simp only [List.length_append, List.length_cons, List.length_nil]; omega) (by omega) (by simp only [List.length_append, List.length_cons, List.length_nil] at e ⊢; omega), e, List.replicate_succ, List.append_assoc]; rfl
  exact go KK p (by omega) (by unfold KK; omega) (by omega)
theorem fuel_mono2 {x : List Int} (hx : x.length ≤ 200000) : shutterref01_Fill.l1.m KK KK x = some (x ++ List.replicate ((120 - x.length % 64) % 64) 0) := by
  have go : ∀ (k : Nat) (x : List Int), x.length ≤ 300000 → (120 - x.length % 64) % 64 < k → x.length + (120 - x.length % 64) % 64 ≤ 300000 →
      shutterref01_Fill.l1.m KK k x = some (x ++ List.replicate ((120 - x.length % 64) % 64) 0) := by
    intro k
    induction k with
    | zero => intro x _ h; omega
    | succ k ih =>
      intro x hx h h2
      rw [shutterref01_Fill.l1.m, Int.tmod_eq_emod_of_nonneg (by omega)]
      by_cases h56 : (x.length : Int) % 64 = 56
      · rw [if_pos h56]
        have : (120 - x.length % 64) % 64 = 0 := by omega
        rw [this]; simp
      · have e : (120 - x.length % 64) % 64 = (120 - (x ++ [0]).length % 64) % 64 + 1 := by simp only [List.length_append, List.length_cons, List.length_nil]; omega
        rw [if_neg h56, app_ok (by simp; omega), Option.bind_some, ih (x ++ [0]) (by simp only [List.length_append, List.length_cons, List.length_nil]; omega) (by omega) (by simp only [List.length_append, List.length_cons, List.length_nil] at e ⊢; omega), e, List.replicate_succ, List.append_assoc]; rfl
  exact go KK x (by omega) (by unfold KK; omega) (by omega)

theorem len_prog {t : hash_Sum} {n : Int} (hn : t.n' = n) (h0 : 0 ≤ n) (h1 : n ≤ 1000000) : ∀ (k : Nat) (x : List Int) (i : Int), 0 ≤ i → i ≤ 8 → 8 - i < (k : Int) → x.length ≤ 1000 + i.toNat →
    hash_Sum_End.l2.m KK t k x i = some (x ++ lbs n (8 - i).toNat i) := by
  intro k
  induction k with
  | zero => intro x i _ _ h; omega
  | succ k ih =>
    intro x i i0 i1 hk hx
    rw [hash_Sum_End.l2.m]
    simp only [letJ]
    by_cases h3 : i < 8
    · have q : w64 (8 * i) = 8 * i := w64_id (by omega) (by omega)
      have q2 : w64 (56 - 8 * i) = 56 - 8 * i := w64_id (by omega) (by omega)
      have q3 : IntKind.u64.wrap (8 * t.n') = 8 * n := by rw [hn, wrap_u64]; omega
      rw [if_pos h3, cond_true, q, q2, if_pos (by omega), q3, app_ok (by simp; omega), Option.bind_some, w64_id (n := i + 1) (by omega) (by omega), ih _ (i + 1) (by omega) (by omega) (by omega) (by simp; omega),
        show (8 - i).toNat = (8 - (i + 1)).toNat + 1 by omega]
      conv => rhs; unfold lbs
      rw [List.append_assoc]; rfl
    · rw [if_neg h3, cond_false, show (8 - i).toNat = 0 by omega]
      unfold lbs; simp
theorem mod_and {y : Int} (h0 : 0 ≤ y) (h1 : y < 9223372036854775808) : IntKind.u8.wrap (bAnd .i64 y 255) = IntKind.u8.wrap y := by
  obtain ⟨y, rfl⟩ := Int.eq_ofNat_of_zero_le h0
  have e : bAnd .i64 (y : Int) 255 = ((y &&& 255 : Nat) : Int) := bAnd64 (y := 255) (by omega) (by omega)
  rw [e, show 255 = 2 ^ 8 - 1 from rfl, Nat.and_two_pow_sub_one_eq_mod, wrap_u8, wrap_u8]
  omega
theorem shr_le {k : IntKind} {x n : Int} (h0 : 0 ≤ x) : 0 ≤ shr k x n ∧ shr k x n ≤ x := by
  obtain ⟨x, rfl⟩ := Int.eq_ofNat_of_zero_le h0
  have e : shr k (x : Int) n = ((x / 2 ^ (min n.toNat k.bits) : Nat) : Int) := by unfold shr; rw [pow_nat, Int.fdiv_eq_ediv_of_nonneg _ (Int.natCast_nonneg _), Int.natCast_ediv]
  rw [e]
  have := Nat.div_le_self x (2 ^ min n.toNat k.bits)
  generalize x / 2 ^ min n.toNat k.bits = z at *
  exact ⟨by omega, by omega⟩
theorem len_ref {x0 : List Int} (h1 : x0.length ≤ 1000000) : ∀ (k : Nat) (x : List Int) (i : Int), 0 ≤ i → i ≤ 8 → 8 - i < (k : Int) → x.length ≤ 2000000 + i.toNat →
    shutterref01_Fill.l2.m KK x0 k x i = some (x ++ lbs (x0.length : Int) (8 - i).toNat i) := by
  intro k
  induction k with
  | zero => intro x i _ _ h; omega
  | succ k ih =>
    intro x i i0 i1 hk hx
    rw [shutterref01_Fill.l2.m]
    by_cases h3 : i < 8
    · have q : w64 (8 * i) = 8 * i := w64_id (by omega) (by omega)
      have q2 : w64 (56 - 8 * i) = 56 - 8 * i := w64_id (by omega) (by omega)
      have q3 : w64 (8 * (x0.length : Int)) = 8 * (x0.length : Int) := w64_id (by omega) (by omega)
      have q4 : IntKind.u64.wrap (56 - 8 * i) = 56 - 8 * i := by rw [wrap_u64]; omega
      have e : IntKind.u8.wrap (bAnd .i64 (shr .i64 (8 * (x0.length : Int)) (56 - 8 * i)) 255) = lb (x0.length : Int) i := by
        have := shr_le (k := .i64) (x := 8 * (x0.length : Int)) (n := 56 - 8 * i) (by omega)
        rw [mod_and this.1 (by omega)]; rfl
      rw [if_pos h3, q, q2, q3, q4, e, if_pos (by omega), app_ok (by simp; omega), Option.bind_some, w64_id (n := i + 1) (by omega) (by omega), ih _ (i + 1) (by omega) (by omega) (by omega) (by simp; omega),
        show (8 - i).toNat = (8 - (i + 1)).toNat + 1 by omega]
      conv => rhs; unfold lbs
      rw [List.append_assoc]; rfl
    · rw [if_neg h3, show (8 - i).toNat = 0 by omega]
      unfold lbs; simp

/-- A state's bytes. -/
def outB (h : List Int) : List Int := (shutterref01_Of.l3.m KK h KK 0 (List.replicate 32 0)).getD []
theorem out_lock {h : List Int} (kh : St8 h) {t : hash_Sum} (ht : t.h' = h) : ∀ (k : Nat) (i : Int) (o : List Int), 0 ≤ i → i ≤ 32 → 32 - i < (k : Int) → o.length = 32 → (∀ y ∈ o, Wf .u8 y) →
    ∃ o', hash_Sum_End.l3.m KK t k i o = some o' ∧ shutterref01_Of.l3.m KK h k i o = some o' ∧ o'.length = 32 ∧ ∀ y ∈ o', Wf .u8 y := by
  intro k
  induction k with
  | zero => intro i o _ _ h; omega
  | succ k ih =>
    intro i o i0 i1 hk ho wo
    rw [hash_Sum_End.l3.m, shutterref01_Of.l3.m]
    simp only [letJ]
    by_cases h3 : i < 32
    · have d : Int.tdiv i 4 = i / 4 := Int.tdiv_eq_ediv_of_nonneg i0
      have m : Int.tmod i 4 = i % 4 := Int.tmod_eq_emod_of_nonneg i0
      have q1 : w64 (i / 4) = i / 4 := w64_id (by omega) (by omega)
      have q2 : w64 (8 * (i % 4)) = 8 * (i % 4) := w64_id (by omega) (by omega)
      have q3 : w64 (24 - 8 * (i % 4)) = 24 - 8 * (i % 4) := w64_id (by omega) (by omega)
      have q4 : IntKind.u64.wrap (24 - 8 * (i % 4)) = 24 - 8 * (i % 4) := by rw [wrap_u64]; omega
      have wh := kh.wd _ (at_mem (l := h) (i := i / 4) (by omega) (by rw [kh.len]; omega))
      obtain ⟨z, hz⟩ : ∃ z : Nat, 24 - 8 * (i % 4) = (z : Int) := ⟨(24 - 8 * (i % 4)).toNat, by omega⟩
      have e : IntKind.u8.wrap (bAnd .i64 (shr .i64 (at_ h (i / 4)) (24 - 8 * (i % 4))) 255) = IntKind.u8.wrap (shr .u32 (at_ h (i / 4)) (24 - 8 * (i % 4))) := by
        generalize at_ h (i / 4) = x at *
        obtain ⟨x, rfl, hx⟩ := wh.nat
        rw [hz, shr_nat (k := .i64) (by omega) (by decide), shr_nat (k := .u32) (by omega) (by decide)]
        have := Nat.div_le_self x (2 ^ z)
        generalize x / 2 ^ z = y at *
        rw [mod_and (by omega) (by omega)]
      rw [if_pos h3, if_pos h3, cond_true, d, m, q1, q2, q3, q4, e, ht, if_pos (by omega), if_pos (by omega), if_pos (by omega), if_pos i0, if_pos h3, if_pos (by omega), if_pos (by omega), if_pos (by omega), if_pos i0, w64_id (n := i + 1) (by omega) (by omega)]
      refine ih (i + 1) _ (by omega) (by omega) (by omega) (by rw [List.length_set]; exact ho) fun y hy => ?_
      rcases List.mem_or_eq_of_mem_set hy with hy | rfl
      · exact wo y hy
      · exact wf_wrap8 _
    · rw [if_neg h3, if_neg h3, cond_false]
      exact ⟨o, rfl, by rw [if_neg h3], ho, wo⟩
theorem out_eq {h : List Int} (kh : St8 h) : (∀ t : hash_Sum, t.h' = h → hash_Sum_End.l3.m KK t KK 0 (List.replicate 32 (0 : Int)) = some (outB h)) ∧ shutterref01_Of.l3.m KK h KK 0 (List.replicate 32 (0 : Int)) = some (outB h) ∧ (outB h).length = 32 ∧ ∀ y ∈ outB h, Wf .u8 y := by
  have w : ∀ y ∈ List.replicate 32 (0 : Int), Wf .u8 y := fun y hy => by obtain rfl := List.eq_of_mem_replicate hy; exact wf_num (by omega) (by omega)
  have base := out_lock kh (t := ⟨h, [], 0⟩) rfl KK 0 (List.replicate 32 0) (by omega) (by omega) (by unfold KK; omega) (List.length_replicate ..) w
  obtain ⟨o, _, e2, e3, e4⟩ := base
  have eo : outB h = o := by unfold outB; rw [e2]; rfl
  rw [eo]
  refine ⟨fun t ht => ?_, e2, e3, e4⟩
  obtain ⟨o2, f1, f2, _, _⟩ := out_lock kh (t := t) ht KK 0 (List.replicate 32 0) (by omega) (by omega) (by unfold KK; omega) (List.length_replicate ..) w
  rw [f2] at e2
  rw [f1, Option.some.inj e2]

/-- The sum. -/
def sha (x : List Int) : List Int := outB (FB H0 (x ++ padL x.length)).1
theorem bytes_app {a b : List Int} (wa : ∀ y ∈ a, Wf .u8 y) (wb : ∀ y ∈ b, Wf .u8 y) : ∀ y ∈ a ++ b, Wf .u8 y := fun y hy => (List.mem_append.1 hy).elim (wa y) (wb y)
theorem sha_wf {x : List Int} (wx : ∀ y ∈ x, Wf .u8 y) : (sha x).length = 32 ∧ ∀ y ∈ sha x, Wf .u8 y := by
  unfold sha
  exact (out_eq (FB_st _ H0 (x ++ padL x.length) (Nat.le_refl _) st_H0 (bytes_app wx (padL_wf _))).1).2.2
theorem hash_eq {ps : List (List Int)} (hps : ps.length ≤ 100000) (hl : ps.flatten.length ≤ 100000) (wp : ∀ y ∈ ps.flatten, Wf .u8 y) : hash_Of.m KK ps = some (sha ps.flatten) := by
  unfold hash_Of.m
  rw [new_eq, Option.bind_some, add_eq (by omega) (by simp) (by omega) (by omega) (by omega) st_H0 (by simp) wp, Option.bind_some, List.nil_append, Int.zero_add]
  generalize ps.flatten = x at *
  have f := FB_st _ H0 x (Nat.le_refl _) st_H0 wp
  unfold hash_Sum_End.m
  simp only
  have hr : (FB H0 x).2.length < 64 := by rw [f.2.2]; omega
  have hz : (120 - ((FB H0 x).2.length + [(128 : Int)].length) % 64) % 64 = zs x.length := by
    rw [f.2.2]; unfold zs; simp only [List.length_cons, List.length_nil]; omega
  rw [app_ok (by simp; omega), Option.bind_some, List.nil_append, fuel_mono1 hr (by simp), Option.bind_some, hz,
    len_prog (t := ⟨(FB H0 x).1, (FB H0 x).2, (x.length : Int)⟩) (n := (x.length : Int)) rfl (by omega) (by omega) KK _ 0 (by omega) (by omega) (by unfold KK; omega) (by simp; unfold zs; omega), Option.bind_some]
  have ep : [(128 : Int)] ++ List.replicate (zs x.length) 0 ++ lbs (x.length : Int) (8 - (0 : Int)).toNat 0 = padL x.length := rfl
  rw [ep]
  have hpl := padL_len x.length
  have fl : [padL x.length].flatten = padL x.length := by simp
  rw [add_eq (by simp) hr (by rw [fl]; omega) (by omega) (by omega) f.1 f.2.1 (by rw [fl]; exact padL_wf _), Option.bind_some, fl, ← FB_app _ H0 x _ (Nat.le_refl _)]
  have g := FB_st _ H0 (x ++ padL x.length) (Nat.le_refl _) st_H0 (bytes_app wp (padL_wf _))
  rw [(out_eq g.1).1 ⟨(FB H0 (x ++ padL x.length)).1, (FB H0 (x ++ padL x.length)).2, (x.length : Int) + ((padL x.length).length : Int)⟩ rfl, Option.bind_some, Option.bind_some]
  unfold sha
  simp only

theorem blocks_ref {t : List Int} (ht : t.length ≤ 1000000) (h64 : t.length % 64 = 0) (wt : ∀ y ∈ t, Wf .u8 y) : ∀ (k : Nat) (i : Nat) (h : List Int), i ≤ t.length → i % 64 = 0 → t.length - i < k → St8 h →
    shutterref01_Of.l2.m KK t k (i : Int) h = some (FB h (t.drop i)).1 := by
  intro k
  induction k with
  | zero => intro i h _ _ hk; omega
  | succ k ih =>
    intro i h hi hm hk kh
    rw [shutterref01_Of.l2.m, w64_id (n := (i : Int) + 64) (by omega) (by omega)]
    by_cases h3 : (i : Int) < (t.length : Int)
    · have hl : 64 ≤ (t.drop i).length := by rw [List.length_drop]; omega
      have e1 : sub t (i : Int) ((i : Int) + 64) = (t.drop i).take 64 := by
        unfold sub; rw [Int.toNat_natCast]; congr 1; omega
      have hp : ((t.drop i).take 64).length = 64 := by rw [List.length_take]; omega
      obtain ⟨c1, _, c3⟩ := cmp_eq kh hp (fun y hy => wt y (List.mem_of_mem_drop (List.mem_of_mem_take hy)))
      rw [if_pos h3, if_pos (by omega), if_pos (by omega), if_pos (by omega), e1, c1, Option.bind_some, FB_eq h (t.drop i), if_pos hl, List.drop_drop]
      exact ih (i + 64) _ (by omega) (by omega) (by omega) c3
    · rw [if_neg h3, List.drop_eq_nil_of_le (by omega), FB_eq, if_neg (by simp)]
theorem ref_eq {x : List Int} (hl : x.length ≤ 100000) (wx : ∀ y ∈ x, Wf .u8 y) : shutterref01_Of.m KK x = some (sha x) := by
  unfold shutterref01_Of.m shutterref01_Fill.m
  have hz : (120 - (x ++ [(128 : Int)]).length % 64) % 64 = zs x.length := by
    unfold zs; simp only [List.length_append, List.length_cons, List.length_nil]
  have ep : x ++ [(128 : Int)] ++ List.replicate (zs x.length) 0 ++ lbs (x.length : Int) (8 - (0 : Int)).toNat 0 = x ++ padL x.length := by
    unfold padL; simp
  rw [init_eq, Option.bind_some, app_ok (by simp; omega), Option.bind_some, List.nil_append, app_ok (by simp; omega), Option.bind_some, fuel_mono2 (by simp; omega), Option.bind_some, hz,
    len_ref (by omega) KK _ 0 (by omega) (by omega) (by unfold KK; omega) (by simp; unfold zs; omega), Option.bind_some, Option.bind_some, ep]
  have hpl := padL_len x.length
  have w := bytes_app wx (padL_wf x.length)
  have g := FB_st _ H0 (x ++ padL x.length) (Nat.le_refl _) st_H0 w
  have hb := blocks_ref (t := x ++ padL x.length) (by rw [List.length_append]; omega) (by rw [List.length_append]; omega) w KK 0 H0 (by omega) (by omega) (by rw [List.length_append]; unfold KK; omega) st_H0
  rw [List.drop_zero] at hb
  have hb' : shutterref01_Of.l2.m KK (x ++ padL x.length) KK 0 H0 = _ := hb
  rw [hb', Option.bind_some, (out_eq g.1).2.1, Option.bind_some]
  unfold sha
  rfl
end Go.Proofs.YtpkcckaaocannaaDoor.Sx
