/- The plain part of the laws of package 04: addr.Put, and AddrApart, AddrWays, AddrBack. -/
import Derived.Test.YtenlbpcfilmgpaaDoorP04b
namespace Go.Proofs.YtenlbpcfilmgpaaDoor.Sx
open Go

theorem put6_eq {k : Int} (h0 : 0 ≤ k) (h1 : k < 64) : six_Put.m k = some (tab k, GoErr.nil) := by
  unfold six_Put.m
  rw [if_neg (by omega), if_neg (by omega), (tab_facts h0 h1).2.2.2, Option.bind_some]

/-- What addr.Put writes. -/
def putOf (a n : Int) : List Int := if n > 4096 then [a / 256, a % 256] else [tab (a / 64), tab (a % 64)]

theorem put04 {a n : Int} (h1 : 1 ≤ n) (h2 : n ≤ 16383) (h3 : 0 ≤ a) (h4 : a < n) : addr_Put.m KK a n = some (putOf a n, GoErr.nil) := by
  unfold addr_Put.m putOf
  rw [sized_eq]
  simp only [letJ, Option.bind_some, show (1 ≤ n ∧ n ≤ 16383) from ⟨h1, h2⟩, decide_true, and_self, cond_true, cond_false, if_neg (show ¬ a < 0 by omega), if_neg (show ¬ a ≥ n by omega), long_eq]
  by_cases hl : n > 4096
  · simp only [hl, decide_true, cond_true, if_true]
    have e : shr .i64 a 8 = a / 256 := by
      unfold shr
      rw [show ((2 : Int) ^ (min (8 : Int).toNat IntKind.i64.bits)) = 256 from by decide, Int.fdiv_eq_ediv_of_nonneg _ (by decide)]
    rw [e, w8_mod, w8_mod, Int.emod_eq_of_lt (by omega) (by omega)]
  · simp only [hl, decide_false, cond_false, if_false]
    obtain ⟨e1, e2⟩ := and6 h3 (show a < 4096 by omega)
    have step : addr_Put.l1.m KK a (1048573 + 3) 0 (List.replicate 2 (0 : Int)) = some (.inr [tab (a / 64), tab (a % 64)]) := by
      rw [addr_Put.l1.m]
      simp only [letJ, e1, e2, List.length_cons, List.length_nil, show (0 : Int) < ((0 + 1 + 1 : Nat) : Int) from by decide, if_true, cond_true, Int.le_refl, show at_ [a / 64, a % 64] 0 = a / 64 from rfl, put6_eq (k := a / 64) (by omega) (by omega), Option.bind_some, show (0 : Int) < 2 from by decide]
      rw [addr_Put.l1.m]
      simp only [letJ, e1, e2, show w64 (0 + 1) = 1 from by decide, List.length_cons, List.length_nil, show (1 : Int) < ((0 + 1 + 1 : Nat) : Int) from by decide, if_true, cond_true, show (0 : Int) ≤ 1 from by decide, show at_ [a / 64, a % 64] 1 = a % 64 from rfl, put6_eq (k := a % 64) (by omega) (by omega), Option.bind_some, show (1 : Int) < 2 from by decide]
      rw [addr_Put.l1.m]
      simp only [letJ, e1, e2, show w64 (1 + 1) = 2 from by decide, List.length_cons, List.length_nil, show ¬ (2 : Int) < ((0 + 1 + 1 : Nat) : Int) from by decide, if_false, cond_false]
      rfl
    rw [show KK = 1048573 + 3 from rfl, step, Option.bind_some]

theorem size_eq {x : Int} (h : Wf .u16 x) : w64 (1 + Int.tmod (w64 x) 16383) = 1 + x % 16383 := by
  have := b_u16 h
  rw [w64_id (n := x) (by omega) (by omega), Int.tmod_eq_emod_of_nonneg (by omega), w64_id (by omega) (by omega)]
theorem tmod_in {x n : Int} (h : Wf .u16 x) (hn : 1 ≤ n) : Int.tmod (w64 x) n = x % n := by
  have := b_u16 h
  rw [w64_id (n := x) (by omega) (by omega), Int.tmod_eq_emod_of_nonneg (by omega)]

theorem tab_inj {a b : Int} (h0 : 0 ≤ a) (h1 : a < 64) (h2 : 0 ≤ b) (h3 : b < 64) (h : tab a = tab b) : a = b := by
  rw [← (tab_facts h0 h1).2.2.1, ← (tab_facts h2 h3).2.2.1, h]

theorem put_inj {a b n : Int} (h2 : n ≤ 16383) (h3 : 0 ≤ a) (h4 : a < n) (h5 : 0 ≤ b) (h6 : b < n) : (putOf a n == putOf b n) = (a == b) := by
  rw [Bool.eq_iff_iff, beq_iff_eq, beq_iff_eq]
  constructor
  · intro h
    unfold putOf at h
    split at h
    · simp only [List.cons.injEq, and_true] at h; omega
    · simp only [List.cons.injEq, and_true] at h
      have e1 := tab_inj (by omega) (by omega) (by omega) (by omega) h.1
      have e2 := tab_inj (by omega) (by omega) (by omega) (by omega) h.2
      omega
  · rintro rfl; rfl

theorem AddrApart_true (x0 x1 x2 : Int) (w0 : Wf .u16 x0) (w1 : Wf .u16 x1) (w2 : Wf .u16 x2) : shutterlaw04_AddrApart.m KK x0 x1 x2 = some true := by
  have b2 := b_u16 w2
  unfold shutterlaw04_AddrApart.m
  rw [size_eq w2]
  generalize hn : 1 + x2 % 16383 = n
  have n1 : 1 ≤ n := by omega
  have n2 : n ≤ 16383 := by omega
  rw [if_pos (by omega), tmod_in w0 n1, tmod_in w1 n1]
  have p1 := Int.emod_nonneg x0 (show n ≠ 0 by omega)
  have p2 := Int.emod_lt_of_pos x0 (show 0 < n by omega)
  have p3 := Int.emod_nonneg x1 (show n ≠ 0 by omega)
  have p4 := Int.emod_lt_of_pos x1 (show 0 < n by omega)
  simp only [put04 n1 n2 p1 p2, put04 n1 n2 p3 p4, awake04, Option.bind_some, cond_true, if_true, put_inj n2 p1 p2 p3 p4, beq_self_eq_true]

theorem AddrWays_true (x0 x1 : Int) (w0 : Wf .u16 x0) (w1 : Wf .u16 x1) : shutterlaw04_AddrWays.m KK x0 x1 = some true := by
  have b1 := b_u16 w1
  unfold shutterlaw04_AddrWays.m
  rw [size_eq w1]
  generalize hn : 1 + x1 % 16383 = n
  have n1 : 1 ≤ n := by omega
  have n2 : n ≤ 16383 := by omega
  rw [if_pos (by omega), tmod_in w0 n1]
  have p1 := Int.emod_nonneg x0 (show n ≠ 0 by omega)
  have p2 := Int.emod_lt_of_pos x0 (show 0 < n by omega)
  generalize x0 % n = a at *
  simp only [put04 n1 n2 p1 p2, awake04, Option.bind_some, cond_true, if_true, letJ, long_eq]
  unfold putOf
  by_cases hl : n > 4096
  · simp only [hl, decide_true, cond_true, if_true, show at_ [a / 256, a % 256] 0 = a / 256 from rfl, show at_ [a / 256, a % 256] 1 = a % 256 from rfl, if_pos (show a / 256 < 64 by omega)]
    rw [w64_id (n := a / 256) (by omega) (by omega), w64_id (n := a % 256) (by omega) (by omega), w64_id (n := 256 * (a / 256)) (by omega) (by omega), w64_id (by omega) (by omega)]
    congr 1
    rw [beq_iff_eq]; omega
  · have t1 := tab_facts (k := a / 64) (by omega) (by omega)
    have t2 := tab_facts (k := a % 64) (by omega) (by omega)
    simp only [hl, decide_false, cond_false, if_false, show at_ [tab (a / 64), tab (a % 64)] 0 = tab (a / 64) from rfl, show at_ [tab (a / 64), tab (a % 64)] 1 = tab (a % 64) from rfl, if_pos (show tab (a / 64) ≥ 64 from t1.1), if_pos (show tab (a % 64) ≥ 64 from t2.1)]
    rw [Int.tmod_eq_emod_of_nonneg (show 0 ≤ tab (a / 64) by omega), Int.tmod_eq_emod_of_nonneg (show 0 ≤ tab (a % 64) by omega), t1.2.2.1, t2.2.2.1]
    rw [w64_id (n := a / 64) (by omega) (by omega), w64_id (n := a % 64) (by omega) (by omega), w64_id (n := 64 * (a / 64)) (by omega) (by omega), w64_id (by omega) (by omega)]
    congr 1
    rw [beq_iff_eq]; omega

theorem okc_tab {k : Int} (h0 : 0 ≤ k) (h1 : k < 64) : okc (tab k) = true := by
  unfold okc
  rw [(tab_facts h0 h1).2.2.1, beq_self_eq_true]

/-- What is written is read as it was, whatever follows. -/
theorem get_put {a n : Int} (h1 : 1 ≤ n) (h2 : n ≤ 16383) (h3 : 0 ≤ a) (h4 : a < n) (more : List Int) : getOf (putOf a n ++ more) n = (a, .nil) := by
  unfold getOf putOf
  rw [if_pos ⟨h1, h2⟩]
  by_cases hl : n > 4096
  · simp only [hl, if_true, List.cons_append, List.nil_append, List.length_cons, show at_ (a / 256 :: a % 256 :: more) 0 = a / 256 from rfl, show at_ (a / 256 :: a % 256 :: more) 1 = a % 256 from rfl]
    rw [if_neg (by omega), if_neg (by omega), if_neg (by omega)]
    congr 1; omega
  · have t1 := tab_facts (k := a / 64) (by omega) (by omega)
    have t2 := tab_facts (k := a % 64) (by omega) (by omega)
    simp only [hl, if_false, List.cons_append, List.nil_append, List.length_cons, show at_ (tab (a / 64) :: tab (a % 64) :: more) 0 = tab (a / 64) from rfl, show at_ (tab (a / 64) :: tab (a % 64) :: more) 1 = tab (a % 64) from rfl]
    unfold rd6
    rw [if_neg (by omega)]
    simp only [okc_tab (k := a / 64) (by omega) (by omega), okc_tab (k := a % 64) (by omega) (by omega), if_true, t1.2.2.1, t2.2.2.1]
    rw [if_neg (by omega)]
    congr 1; omega

/-- What is read is written as it stood. -/
theorem put_get {l : List Int} {n : Int} (hl : l.length = 2) (h : ∀ y ∈ l, Wf .u8 y) (h1 : 1 ≤ n) (h2 : n ≤ 16383) :
    ((getOf l n).2 = .nil ∧ 0 ≤ (getOf l n).1 ∧ (getOf l n).1 < n ∧ putOf (getOf l n).1 n = l) ∨ ((getOf l n).2 ≠ .nil ∧ (getOf l n).1 = 0) := by
  obtain ⟨a, b, rfl⟩ : ∃ a b, l = [a, b] := by
    match l, hl with
    | [a, b], _ => exact ⟨a, b, rfl⟩
  have ha := b_u8 (h a (by simp))
  have hb := b_u8 (h b (by simp))
  unfold getOf
  rw [if_pos ⟨h1, h2⟩, if_neg (by simp)]
  simp only [show at_ [a, b] 0 = a from rfl, show at_ [a, b] 1 = b from rfl]
  unfold putOf
  by_cases hl : n > 4096
  · simp only [hl, if_true]
    by_cases h63 : a > 63
    · simp [h63]
    · simp only [h63, if_false]
      by_cases hge : 256 * a + b ≥ n
      · simp [hge]
      · simp only [hge, if_false]
        left
        refine ⟨trivial, by omega, by omega, ?_⟩
        rw [show (256 * a + b) / 256 = a by omega, show (256 * a + b) % 256 = b by omega]
  · simp only [hl, if_false]
    unfold rd6
    rcases okc_iff a with oa | oa <;> rcases okc_iff b with ob | ob <;> simp only [oa, ob, if_true, if_false, Bool.false_eq_true]
    · by_cases hge : 64 * (a % 64) + b % 64 ≥ n
      · simp [hge]
      · simp only [hge, if_false]
        left
        refine ⟨trivial, by omega, by omega, ?_⟩
        unfold okc at oa ob
        rw [beq_iff_eq] at oa ob
        rw [show (64 * (a % 64) + b % 64) / 64 = a % 64 by omega, show (64 * (a % 64) + b % 64) % 64 = b % 64 by omega, oa, ob]
    · simp
    · simp
    · simp

theorem put_u8 {a n : Int} (h2 : n ≤ 16383) (h3 : 0 ≤ a) (h4 : a < n) : ∀ y ∈ putOf a n, Wf .u8 y := by
  have wf : ∀ y : Int, 0 ≤ y → y ≤ 255 → Wf .u8 y := by
    intro y h0 h1
    unfold Wf
    simp [Lit.wf, IntKind.min, IntKind.max, IntKind.signed, IntKind.bits]
    omega
  unfold putOf
  intro y hy
  split at hy <;> simp only [List.mem_cons, List.not_mem_nil, or_false] at hy <;> rcases hy with rfl | rfl
  · exact wf _ (by omega) (by omega)
  · exact wf _ (by omega) (by omega)
  · have t := tab_facts (k := a / 64) (by omega) (by omega); exact wf _ (by omega) (by omega)
  · have t := tab_facts (k := a % 64) (by omega) (by omega); exact wf _ (by omega) (by omega)
theorem put_len (a n : Int) : (putOf a n).length = 2 := by unfold putOf; split <;> rfl
theorem put_ats (a n : Int) : [at_ (putOf a n) 0, at_ (putOf a n) 1] = putOf a n := by unfold putOf; split <;> rfl

theorem AddrBack_true (x0 x1 : Int) (x2 x3 : List Int) (w0 : Wf .u16 x0) (w1 : Wf .u16 x1) (hl2 : List.length x2 = 2) (w2 : ∀ y ∈ x2, Wf .u8 y) (w3 : ∀ y ∈ x3, Wf .u8 y) (_ : x3.length ≤ maxLen) :
    shutterlaw04_AddrBack.m KK x0 x1 x2 x3 = some true := by
  have b1 := b_u16 w1
  unfold shutterlaw04_AddrBack.m
  rw [awake04, Option.bind_some, cond_true]
  split
  · rfl
  · rename_i h100
    rw [size_eq w1]
    generalize hn : 1 + x1 % 16383 = n
    have n1 : 1 ≤ n := by omega
    have n2 : n ≤ 16383 := by omega
    rw [if_pos (by omega), tmod_in w0 n1]
    have p1 := Int.emod_nonneg x0 (show n ≠ 0 by omega)
    have p2 := Int.emod_lt_of_pos x0 (show 0 < n by omega)
    generalize x0 % n = a at *
    rw [put04 n1 n2 p1 p2, Option.bind_some]
    simp only [put_ats]
    have a1 : app [] (putOf a n) = some (putOf a n) := by unfold app; rw [put_len]; rfl
    have a2 : app (putOf a n) x3 = some (putOf a n ++ x3) := by
      unfold app
      rw [put_len, if_pos (by unfold Lim; omega)]
    have hu : ∀ y ∈ putOf a n ++ x3, Wf .u8 y := fun y hy => (List.mem_append.1 hy).elim (put_u8 n2 p1 p2 y) (w3 y)
    simp only [a1, a2, Option.bind_some, get04 hu, get_put n1 n2 p1 p2, get04 w2, if_true]
    rcases put_get hl2 w2 n1 n2 with ⟨e1, e2, e3, e4⟩ | ⟨e1, e2⟩
    · rw [if_pos e1, put04 n1 n2 e2 e3, Option.bind_some, e4]
      simp
    · rw [if_neg e1, e2]; rfl
end Go.Proofs.YtenlbpcfilmgpaaDoor.Sx
