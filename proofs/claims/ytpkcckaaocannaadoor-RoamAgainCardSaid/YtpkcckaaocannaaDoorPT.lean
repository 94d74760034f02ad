/- Plain facts on words: the program's arithmetic of 32 bits, and the document's of 64. -/
import Derived.Test.YtpkcckaaocannaaDoorPR
namespace Go.Proofs.YtpkcckaaocannaaDoor.Sx
open Go

def Wd (x : Int) : Prop := 0 ≤ x ∧ x < 4294967296
theorem Wd.nat {x : Int} (w : Wd x) : ∃ n : Nat, x = n ∧ n < 4294967296 := ⟨x.toNat, by have := w.1; omega, by have := w.1; have := w.2; omega⟩
theorem wd_nat {n : Nat} (h : n < 4294967296) : Wd (n : Int) := ⟨by omega, by omega⟩
theorem wd_wrap (n : Int) : Wd (IntKind.u32.wrap n) := by rw [wrap_u32]; exact ⟨by omega, by omega⟩
theorem bXor32 {x y : Nat} (hx : x < 4294967296) (hy : y < 4294967296) : bXor .u32 (x : Int) (y : Int) = ((x ^^^ y : Nat) : Int) := by
  unfold bXor
  have h := Nat.xor_lt_two_pow (n := 32) hx hy
  rw [BitVec.toNat_xor, toNat_ofInt (by exact hx), toNat_ofInt (by exact hy), wrap_u32]; omega
theorem bOr32 {x y : Nat} (hx : x < 4294967296) (hy : y < 4294967296) : bOr .u32 (x : Int) (y : Int) = ((x ||| y : Nat) : Int) := by
  unfold bOr
  have h := Nat.or_lt_two_pow (n := 32) hx hy
  rw [BitVec.toNat_or, toNat_ofInt (by exact hx), toNat_ofInt (by exact hy), wrap_u32]; omega
theorem bAnd32 {x y : Nat} (hx : x < 4294967296) (hy : y < 4294967296) : bAnd .u32 (x : Int) (y : Int) = ((x &&& y : Nat) : Int) := by
  unfold bAnd
  have h := Nat.and_lt_two_pow (n := 32) x hy
  rw [BitVec.toNat_and, toNat_ofInt (by exact hx), toNat_ofInt (by exact hy), wrap_u32]; omega
theorem wrap_i64' {n : Int} (h0 : 0 ≤ n) (h1 : n < 9223372036854775808) : IntKind.i64.wrap n = n := w64_id (by omega) (by omega)
theorem bXor64 {x y : Nat} (hx : x < 9223372036854775808) (hy : y < 9223372036854775808) : bXor .i64 (x : Int) (y : Int) = ((x ^^^ y : Nat) : Int) := by
  show IntKind.i64.wrap (((BitVec.ofInt 64 (x : Int) ^^^ BitVec.ofInt 64 (y : Int)).toNat : Nat) : Int) = _
  have h := Nat.xor_lt_two_pow (n := 63) hx hy
  rw [BitVec.toNat_xor, toNat_ofInt (show x < 2 ^ 64 by omega), toNat_ofInt (show y < 2 ^ 64 by omega), wrap_i64' (by omega) (by omega)]
theorem bOr64 {x y : Nat} (hx : x < 9223372036854775808) (hy : y < 9223372036854775808) : bOr .i64 (x : Int) (y : Int) = ((x ||| y : Nat) : Int) := by
  show IntKind.i64.wrap (((BitVec.ofInt 64 (x : Int) ||| BitVec.ofInt 64 (y : Int)).toNat : Nat) : Int) = _
  have h := Nat.or_lt_two_pow (n := 63) hx hy
  rw [BitVec.toNat_or, toNat_ofInt (show x < 2 ^ 64 by omega), toNat_ofInt (show y < 2 ^ 64 by omega), wrap_i64' (by omega) (by omega)]
theorem bAnd64 {x y : Nat} (hx : x < 9223372036854775808) (hy : y < 9223372036854775808) : bAnd .i64 (x : Int) (y : Int) = ((x &&& y : Nat) : Int) := by
  show IntKind.i64.wrap (((BitVec.ofInt 64 (x : Int) &&& BitVec.ofInt 64 (y : Int)).toNat : Nat) : Int) = _
  have h := Nat.and_lt_two_pow (n := 63) x hy
  rw [BitVec.toNat_and, toNat_ofInt (show x < 2 ^ 64 by omega), toNat_ofInt (show y < 2 ^ 64 by omega), wrap_i64' (by omega) (by omega)]

theorem xor_same {x y : Int} (hx : Wd x) (hy : Wd y) : bXor .i64 x y = bXor .u32 x y ∧ Wd (bXor .u32 x y) := by
  obtain ⟨x, rfl, h1⟩ := hx.nat
  obtain ⟨y, rfl, h2⟩ := hy.nat
  rw [bXor64 (by omega) (by omega), bXor32 h1 h2]
  exact ⟨rfl, wd_nat (Nat.xor_lt_two_pow (n := 32) h1 h2)⟩
theorem and_same {x y : Int} (hx : Wd x) (hy : Wd y) : bAnd .i64 x y = bAnd .u32 x y ∧ Wd (bAnd .u32 x y) := by
  obtain ⟨x, rfl, h1⟩ := hx.nat
  obtain ⟨y, rfl, h2⟩ := hy.nat
  rw [bAnd64 (by omega) (by omega), bAnd32 h1 h2]
  exact ⟨rfl, wd_nat (Nat.and_lt_two_pow (n := 32) x h2)⟩
theorem not_same {x : Int} (hx : Wd x) : w64 (4294967295 - x) = bXor .u32 4294967295 x ∧ Wd (bXor .u32 4294967295 x) := by
  obtain ⟨x, rfl, h1⟩ := hx.nat
  have e : bXor .u32 4294967295 (x : Int) = ((4294967295 ^^^ x : Nat) : Int) := bXor32 (x := 4294967295) (by omega) h1
  have e2 : 4294967295 ^^^ x = 4294967295 - x := by
    have h := BitVec.toNat_xor (BitVec.allOnes 32) (BitVec.ofNat 32 x)
    rw [BitVec.allOnes_xor, BitVec.toNat_not, BitVec.toNat_allOnes, BitVec.toNat_ofNat, Nat.mod_eq_of_lt (by omega)] at h
    exact h.symm
  rw [e, e2, w64_id (by omega) (by omega)]
  exact ⟨by omega, wd_nat (by omega)⟩

def rot (x n : Int) : Int := bOr .u32 (shr .u32 x n) (shl .u32 x (32 - n))
theorem pow_nat {n : Nat} : ((2 : Int) ^ n) = ((2 ^ n : Nat) : Int) := by rw [Int.natCast_pow]; rfl
theorem shr_nat {k : IntKind} {x n : Nat} (hn : n ≤ 32) (hk : 32 ≤ k.bits) : shr k (x : Int) (n : Int) = ((x / 2 ^ n : Nat) : Int) := by
  unfold shr
  rw [Int.toNat_natCast, Nat.min_eq_left (by omega), pow_nat, Int.fdiv_eq_ediv_of_nonneg _ (Int.natCast_nonneg _), Int.natCast_ediv]
theorem rot_nat {x n : Nat} (hx : x < 4294967296) (h1 : n ≤ 32) : rot (x : Int) (n : Int) = ((x / 2 ^ n ||| x * 2 ^ (32 - n) % 4294967296 : Nat) : Int) := by
  unfold rot
  have e1 : shr .u32 (x : Int) (n : Int) = ((x / 2 ^ n : Nat) : Int) := shr_nat (by omega) (by decide)
  have e2 : shl .u32 (x : Int) (32 - (n : Int)) = ((x * 2 ^ (32 - n) % 4294967296 : Nat) : Int) := by
    unfold shl
    have : (32 - (n : Int)).toNat = 32 - n := by omega
    rw [this, Nat.min_eq_left (by show 32 - n ≤ 32; omega), wrap_u32, pow_nat, ← Int.natCast_mul]
    generalize x * 2 ^ (32 - n) = y
    omega
  have l1 : x / 2 ^ n < 4294967296 := Nat.lt_of_le_of_lt (Nat.div_le_self _ _) hx
  rw [e1, e2, bOr32 l1 (Nat.mod_lt _ (by omega))]
theorem rot_same {x : Int} (hx : Wd x) {n : Nat} (h0 : 0 < n) (h1 : n < 32) : bAnd .i64 (bOr .i64 (shr .i64 x (n : Int)) (shl .i64 x (32 - (n : Int)))) 4294967295 = rot x n ∧ Wd (rot x n) := by
  obtain ⟨x, rfl, hx'⟩ := hx.nat
  clear hx
  have hx := hx'
  have e1 : shr .i64 (x : Int) (n : Int) = ((x / 2 ^ n : Nat) : Int) := shr_nat (by omega) (by decide)
  have hp : x * 2 ^ (32 - n) < 9223372036854775808 := by
    have : 2 ^ (32 - n) ≤ 2 ^ 31 := Nat.pow_le_pow_right (by omega) (by omega)
    have h2 : x * 2 ^ (32 - n) ≤ x * 2 ^ 31 := Nat.mul_le_mul_left _ this
    omega
  have e2 : shl .i64 (x : Int) (32 - (n : Int)) = ((x * 2 ^ (32 - n) : Nat) : Int) := by
    unfold shl
    have : (32 - (n : Int)).toNat = 32 - n := by omega
    rw [this, Nat.min_eq_left (by show 32 - n ≤ 64; omega), pow_nat, ← Int.natCast_mul]
    exact wrap_i64' (by omega) (by omega)
  have l1 : x / 2 ^ n < 4294967296 := Nat.lt_of_le_of_lt (Nat.div_le_self _ _) hx
  have l2 : (x / 2 ^ n ||| x * 2 ^ (32 - n)) < 9223372036854775808 := Nat.or_lt_two_pow (n := 63) (by omega) hp
  rw [e1, e2, bOr64 (by omega) hp, show (4294967295 : Int) = ((4294967295 : Nat) : Int) from rfl, bAnd64 l2 (by omega), rot_nat hx (by omega)]
  have e3 : (x / 2 ^ n ||| x * 2 ^ (32 - n)) &&& 4294967295 = (x / 2 ^ n ||| x * 2 ^ (32 - n) % 4294967296) := by
    rw [show 4294967295 = 2 ^ 32 - 1 from rfl, Nat.and_two_pow_sub_one_eq_mod, Nat.or_mod_two_pow, Nat.mod_eq_of_lt (show x / 2 ^ n < 2 ^ 32 from l1)]
  rw [e3]
  exact ⟨rfl, wd_nat (Nat.or_lt_two_pow (n := 32) l1 (Nat.mod_lt _ (by omega)))⟩
end Go.Proofs.YtpkcckaaocannaaDoor.Sx
