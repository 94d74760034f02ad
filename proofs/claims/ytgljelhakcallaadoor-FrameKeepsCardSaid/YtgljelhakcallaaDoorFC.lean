/- Package frame: FrameApart: datagrams are alike where frames are. -/
import Derived.Test.YtgljelhakcallaaDoorFAa
import Derived.Test.YtgljelhakcallaaDoorGE
namespace Go.Proofs.YtgljelhakcallaaDoor.Sx
open Go
set_option maxRecDepth 100000

theorem shr64_nat {x n : Nat} (hn : n ≤ 64) : shr .i64 (x : Int) (n : Int) = ((x / 2 ^ n : Nat) : Int) := by
  unfold shr
  rw [Int.toNat_natCast, show min n IntKind.i64.bits = n from Nat.min_eq_left hn, pow_nat, Int.fdiv_eq_ediv_of_nonneg _ (Int.natCast_nonneg _), Int.natCast_ediv]
/-- A number told by its bytes. -/
def fval : List Int → Int → Int
  | [], v => v
  | b :: l, v => fval l (v * 256 + b)
theorem up8 (z : Nat) : (((z / 256 : Nat) : Int)) * 256 + ((z % 256 : Nat) : Int) = ((z : Nat) : Int) := by omega
theorem sb_nat {q n : Nat} (i : Int) (h : 56 - 8 * i = (n : Int)) (hn : n ≤ 64) : sb (q : Int) i = ((q / 2 ^ n % 256 : Nat) : Int) := by
  unfold sb; rw [h, shr64_nat hn, wrap_u8]; generalize q / 2 ^ n = z; omega
theorem div8 (q n : Nat) : q / 2 ^ (n + 8) = q / 2 ^ n / 256 := by rw [Nat.pow_add, ← Nat.div_div_eq_div_mul]
theorem fval_sbs {q : Int} (h0 : 0 ≤ q) (h1 : q ≤ 4611686018427387904) : fval (sbs q 8 0) 0 = q := by
  obtain ⟨q, rfl⟩ := Int.eq_ofNat_of_zero_le h0
  have big : (2 : Nat) ^ (56 + 8) = 18446744073709551616 := by decide
  have top : q / 2 ^ 56 / 256 = 0 := by
    rw [← div8, big]; exact Nat.div_eq_of_lt (by omega)
  simp only [sbs, fval]
  rw [sb_nat (n := 56) 0 (by omega) (by omega), sb_nat (n := 48) (0 + 1) (by omega) (by omega), sb_nat (n := 40) (0 + 1 + 1) (by omega) (by omega), sb_nat (n := 32) (0 + 1 + 1 + 1) (by omega) (by omega), sb_nat (n := 24) (0 + 1 + 1 + 1 + 1) (by omega) (by omega),
    sb_nat (n := 16) (0 + 1 + 1 + 1 + 1 + 1) (by omega) (by omega), sb_nat (n := 8) (0 + 1 + 1 + 1 + 1 + 1 + 1) (by omega) (by omega), sb_nat (n := 0) (0 + 1 + 1 + 1 + 1 + 1 + 1 + 1) (by omega) (by omega)]
  have t0 : (0 : Int) * 256 = (((q / 2 ^ 56 / 256 : Nat) : Int)) * 256 := by rw [top]; rfl
  rw [t0, up8, div8 q 48, up8, div8 q 40, up8, div8 q 32, up8, div8 q 24, up8, div8 q 16, up8, div8 q 8, up8, div8 q 0, up8, Nat.pow_zero, Nat.div_one]
theorem sealT_inj {k : List Int} {f g : api_Frame} (wk : ∀ y ∈ k, Wf .u8 y) (wf : ∀ y ∈ f.Body, Wf .u8 y) (wg : ∀ y ∈ g.Body, Wf .u8 y) (of : okF f) (og : okF g) (h : sealT k f = sealT k g) : f = g := by
  have lf := (sealT_ok wk wf).1
  have lg := (sealT_ok wk wg).1
  have hl : f.Body.length = g.Body.length := by rw [h] at lf; omega
  have ht : txt f = txt g := by
    have := congrArg (List.take (10 + f.Body.length)) h
    unfold sealT at this
    rwa [List.take_append_of_le_length (by rw [txt_len]; omega), List.take_append_of_le_length (by rw [txt_len]; omega), List.take_of_length_le (by rw [txt_len]; omega), List.take_of_length_le (by rw [txt_len]; omega)] at this
  unfold txt at ht
  simp only [List.cons.injEq, true_and] at ht
  obtain ⟨hd, hs⟩ := ht
  have h1 : sbs f.Seq 8 0 = sbs g.Seq 8 0 ∧ f.Body = g.Body := List.append_inj hs (by rw [sbs_len, sbs_len])
  have hq : f.Seq = g.Seq := by
    have : fval (sbs f.Seq 8 0) 0 = fval (sbs g.Seq 8 0) 0 := by rw [h1.1]
    rwa [fval_sbs (by have := of.2.1; omega) of.2.2, fval_sbs (by have := og.2.1; omega) og.2.2] at this
  have hD : f.Dir = g.Dir := by
    rw [wrap_u8, wrap_u8] at hd
    rcases of.1 with a | a <;> rcases og.1 with b | b <;> rw [a, b] at hd ⊢ <;> omega
  cases f; cases g
  simp only at hD hq h1
  rw [hD, hq, h1.2]
theorem same19_eq {f g : api_Frame} (h : f.Body.length ≤ 100000) : shutterref19_Same.m KK f g = some (f == g) := by
  unfold shutterref19_Same.m
  by_cases h1 : f.Dir = g.Dir
  · rw [if_pos h1]
    by_cases h2 : f.Seq = g.Seq
    · rw [if_pos h2, same_eq h, Option.bind_some]
      congr 1
      by_cases h3 : f.Body = g.Body
      · have : f = g := by cases f; cases g; simp only at h1 h2 h3; rw [h1, h2, h3]
        rw [this]; simp
      · have : f ≠ g := fun e => h3 (by rw [e])
        rw [beq_eq_false_iff_ne.2 h3, beq_eq_false_iff_ne.2 this]
    · have : f ≠ g := fun e => h2 (by rw [e])
      rw [if_neg h2, beq_eq_false_iff_ne.2 this]
  · have : f ≠ g := fun e => h1 (by rw [e])
    rw [if_neg h1, beq_eq_false_iff_ne.2 this]
theorem FrameApart_true (x0 : (List Int)) (x1 : api_Frame) (x2 : api_Frame) (w0 : ∀ y ∈ x0, Wf .u8 y) (_ : x0.length ≤ maxLen) (k1 : ok_api_Frame x1) (k2 : ok_api_Frame x2) : shutterlaw19_FrameApart.m KK x0 x1 x2 = some true := by
  obtain ⟨_, _, w1, _⟩ := k1
  obtain ⟨_, _, w2, _⟩ := k2
  unfold shutterlaw19_FrameApart.m
  rw [awake19, Option.bind_some, cond_true]
  by_cases h0 : (x0.length : Int) > 200
  · rw [if_pos h0, Option.bind_some]
  · rw [if_neg h0, wrong_eq, Option.bind_some, wrong_eq]
    by_cases a1 : wrongOf x1 = 0
    · rw [if_pos a1, Option.bind_some]
      by_cases a2 : wrongOf x2 = 0
      · have good : ∀ f, wrongOf f = 0 → okF f ∧ f.Body.length ≤ 486 := fun f h => by
          unfold wrongOf at h
          by_cases o : okF f
          · rw [if_pos o] at h
            by_cases b : f.Body.length > 486
            · rw [if_pos b] at h; omega
            · exact ⟨o, by omega⟩
          · rw [if_neg o] at h; omega
        obtain ⟨o1, b1⟩ := good x1 a1
        obtain ⟨o2, b2⟩ := good x2 a2
        have e1 : sealF x0 x1 = (sealT x0 x1, .nil) := by unfold sealF; rw [if_pos o1, if_neg (by omega)]
        have e2 : sealF x0 x2 = (sealT x0 x2, .nil) := by unfold sealF; rw [if_pos o2, if_neg (by omega)]
        rw [if_pos a2, seal_eq (by omega) w0 w1, Option.bind_some, seal_eq (by omega) w0 w2, Option.bind_some, e1, e2]
        simp only
        rw [if_pos trivial, if_pos trivial, same_eq (by have := (sealT_ok w0 w1).1; omega), Option.bind_some, same19_eq (by omega), Option.bind_some]
        congr 1
        by_cases h : x1 = x2
        · subst h; simp
        · have hn : sealT x0 x1 ≠ sealT x0 x2 := fun e => h (sealT_inj w0 w1 w2 o1 o2 e)
          rw [beq_eq_false_iff_ne.2 hn, beq_eq_false_iff_ne.2 h]; rfl
      · rw [if_neg a2, Option.bind_some]
    · rw [if_neg a1, Option.bind_some]
end Go.Proofs.YtgljelhakcallaaDoor.Sx
