/- Plain facts on package window: numbers that were seen, told by bits. -/
import Derived.Test.YtpkcckaaocannaaDoorFE
namespace Go.Proofs.YtpkcckaaocannaaDoor.Sx
open Go
set_option maxRecDepth 100000

theorem two64 : (2 : Nat) ^ IntKind.u64.bits = 18446744073709551616 := by decide
theorem p64 : (2 : Nat) ^ 64 = 18446744073709551616 := by decide
theorem shlu {x n : Nat} : shl .u64 (x : Int) (n : Int) = ((x * 2 ^ (min n 64) % 2 ^ 64 : Nat) : Int) := by
  unfold shl
  rw [Int.toNat_natCast, show IntKind.u64.bits = 64 from rfl, pow_nat, ← Int.natCast_mul, wrap_u64, p64]
  generalize x * 2 ^ (min n 64) = z; omega
theorem shru {x n : Nat} : shr .u64 (x : Int) (n : Int) = ((x / 2 ^ (min n 64) : Nat) : Int) := by
  unfold shr
  rw [Int.toNat_natCast, show IntKind.u64.bits = 64 from rfl, pow_nat, Int.fdiv_eq_ediv_of_nonneg _ (Int.natCast_nonneg _), Int.natCast_ediv]
theorem oru {x y : Nat} (hx : x < 18446744073709551616) (hy : y < 18446744073709551616) : bOr .u64 (x : Int) (y : Int) = ((x ||| y : Nat) : Int) := by
  unfold bOr
  have h := Nat.or_lt_two_pow (n := 64) (by rw [p64]; exact hx) (by rw [p64]; exact hy)
  rw [p64] at h
  rw [BitVec.toNat_or, toNat_ofInt (by rw [two64]; exact hx), toNat_ofInt (by rw [two64]; exact hy), wrap_u64]; omega
theorem and1 {x : Nat} (hx : x < 18446744073709551616) : bAnd .u64 (x : Int) 1 = ((x % 2 : Nat) : Int) := by
  unfold bAnd
  have e1 : (BitVec.ofInt IntKind.u64.bits 1).toNat = 1 := by decide
  rw [BitVec.toNat_and, toNat_ofInt (by rw [two64]; exact hx), e1, Nat.and_one_is_mod, wrap_u64]; omega
/-- Is a bit set? -/
theorem bit_eq {x j : Nat} (hx : x < 18446744073709551616) (hj : j < 64) : (bAnd .u64 (shr .u64 (x : Int) (j : Int)) 1 = 1) ↔ x.testBit j = true := by
  have hd : x / 2 ^ j ≤ x := Nat.div_le_self _ _
  rw [shru, Nat.min_eq_left (by omega), and1 (by omega), Nat.testBit_eq_decide_div_mod_eq, decide_eq_true_iff]
  omega
theorem bit0 {x : Nat} (hx : x < 18446744073709551616) : (bAnd .u64 (x : Int) 1 = 0) ↔ x.testBit 0 = false := by
  rw [and1 hx, Nat.testBit_eq_decide_div_mod_eq, Nat.pow_zero, Nat.div_one, decide_eq_false_iff_not]
  omega

/-- What is seen is told by P: of the last 64 numbers, as far as they are numbers. -/
structure Told (s : api_Seen) (top bits : Nat) (P : Nat → Prop) : Prop where
  tp : s.Top = (top : Int)
  bt : s.Bits = (bits : Int)
  lt : bits < 18446744073709551616
  is : ∀ j, j < 64 → j < top → (bits.testBit j = true ↔ P (top - j))
  le : ∀ n, P n → 1 ≤ n ∧ n ≤ top

theorem tb_new {bits d j : Nat} (hj : j < 64) (hd : 1 ≤ d) : (bits * 2 ^ (min d 64) % 2 ^ 64 ||| 1).testBit j = (decide (j = 0) || (decide (d ≤ j) && bits.testBit (j - d))) := by
  rw [Nat.testBit_or, Nat.testBit_mod_two_pow, Nat.mul_comm, Nat.testBit_two_pow_mul, decide_eq_true hj, Bool.true_and]
  by_cases h0 : j = 0
  · subst h0; simp
  · have h1 : Nat.testBit 1 j = false := by
      rw [show (1 : Nat) = 2 ^ 0 from rfl]; exact Nat.testBit_two_pow_of_ne (by omega)
    rw [h1, decide_eq_false h0, Bool.or_false, Bool.false_or]
    by_cases h2 : d ≤ j
    · rw [Nat.min_eq_left (by omega)]
    · rw [decide_eq_false h2, Bool.false_and]
      have : ¬ (j ≥ min d 64) := by omega
      rw [decide_eq_false this, Bool.false_and]
theorem told_new {s : api_Seen} {top bits n : Nat} {P : Nat → Prop} (t : Told s top bits P) (h : top < n) :
    Told ⟨(n : Int), bOr .u64 (shl .u64 s.Bits ((n - top : Nat) : Int)) 1⟩ n (bits * 2 ^ (min (n - top) 64) % 2 ^ 64 ||| 1) (fun m => m = n ∨ P m) where
  tp := rfl
  bt := by
    simp only
    rw [t.bt, shlu]
    exact oru (y := 1) (by rw [← p64]; exact Nat.mod_lt _ (by decide)) (by decide)
  lt := by
    rw [← p64]; exact Nat.or_lt_two_pow (Nat.mod_lt _ (by decide)) (by decide)
  is j hj hn := by
    rw [tb_new hj (by omega), Bool.or_eq_true, Bool.and_eq_true, decide_eq_true_iff, decide_eq_true_iff]
    constructor
    · rintro (rfl | ⟨h1, h2⟩)
      · exact .inl (by omega)
      · have := (t.is (j - (n - top)) (by omega) (by omega)).1 h2
        rw [show top - (j - (n - top)) = n - j by omega] at this
        exact .inr this
    · rintro (h1 | h1)
      · exact .inl (by omega)
      · have := t.le _ h1
        refine .inr ⟨by omega, (t.is (j - (n - top)) (by omega) (by omega)).2 ?_⟩
        rw [show top - (j - (n - top)) = n - j by omega]; exact h1
  le m hm := by
    rcases hm with rfl | hm
    · omega
    · have := t.le m hm; omega
theorem told_add {s : api_Seen} {top bits n : Nat} {P : Nat → Prop} (t : Told s top bits P) (h1 : 1 ≤ n) (h : n ≤ top) (h64 : top - n < 64) :
    Told ⟨s.Top, bOr .u64 s.Bits (shl .u64 1 ((top - n : Nat) : Int))⟩ top (bits ||| 2 ^ (top - n)) (fun m => m = n ∨ P m) where
  tp := t.tp
  bt := by
    have e : shl .u64 1 ((top - n : Nat) : Int) = ((2 ^ (top - n) : Nat) : Int) := by
      have := shlu (x := 1) (n := top - n)
      rw [Nat.min_eq_left (by omega), Nat.one_mul, Nat.mod_eq_of_lt (Nat.pow_lt_pow_right (by decide) h64)] at this
      exact this
    simp only
    rw [t.bt, e]
    exact oru t.lt (by rw [← p64]; exact Nat.pow_lt_pow_right (by decide) h64)
  lt := by
    rw [← p64]; exact Nat.or_lt_two_pow (by rw [p64]; exact t.lt) (Nat.pow_lt_pow_right (by decide) h64)
  is j hj hn := by
    rw [Nat.testBit_or, Nat.testBit_two_pow, Bool.or_eq_true, decide_eq_true_iff, t.is j hj hn]
    constructor
    · rintro (h | h)
      · exact .inr h
      · exact .inl (by omega)
    · rintro (h | h)
      · exact .inr (by omega)
      · exact .inl h
  le m hm := by
    rcases hm with rfl | hm
    · omega
    · exact t.le m hm
theorem told_zero : Told ⟨0, 0⟩ 0 0 (fun _ => False) := ⟨rfl, rfl, by decide, fun j _ h => by omega, fun _ h => h.elim⟩
end Go.Proofs.YtpkcckaaocannaaDoor.Sx
