import Derived.Test.YtjkbhpokboolpaaGreatDoorPB
namespace Go.Proofs.YtjkbhpokboolpaaGreatDoor.Sx
open Go
theorem wrap_u8 (n : Int) : IntKind.u8.wrap n = n % 256 := by
  unfold IntKind.wrap
  simp [IntKind.signed, IntKind.bits]
theorem wrap_u32 (n : Int) : IntKind.u32.wrap n = n % 4294967296 := by
  unfold IntKind.wrap
  simp [IntKind.signed, IntKind.bits]
theorem wrap_u64 (n : Int) : IntKind.u64.wrap n = n % 18446744073709551616 := by
  unfold IntKind.wrap
  simp [IntKind.signed, IntKind.bits]
theorem toNat_ofInt {w n : Nat} (h : n < 2 ^ w) : (BitVec.ofInt w (n : Int)).toNat = n := by
  rw [BitVec.ofInt_natCast, BitVec.toNat_ofNat, Nat.mod_eq_of_lt h]
theorem nat_xor_zero {x y : Nat} : x ^^^ y = 0 ↔ x = y := by
  constructor
  · intro h
    have : x ^^^ (x ^^^ y) = x := by rw [h]; simp
    rw [← Nat.xor_assoc, Nat.xor_self, Nat.zero_xor] at this
    exact this.symm
  · rintro rfl; exact Nat.xor_self x
theorem bXor8 {x y : Nat} (hx : x < 256) (hy : y < 256) : bXor .u8 (x : Int) (y : Int) = ((x ^^^ y : Nat) : Int) := by
  unfold bXor
  have h := Nat.xor_lt_two_pow (n := 8) hx hy
  rw [BitVec.toNat_xor, toNat_ofInt (by exact hx), toNat_ofInt (by exact hy), wrap_u8]; omega
theorem bOr8 {x y : Nat} (hx : x < 256) (hy : y < 256) : bOr .u8 (x : Int) (y : Int) = ((x ||| y : Nat) : Int) := by
  unfold bOr
  have h := Nat.or_lt_two_pow (n := 8) hx hy
  rw [BitVec.toNat_or, toNat_ofInt (by exact hx), toNat_ofInt (by exact hy), wrap_u8]; omega
theorem equal_eq {a b : List Int} (ha : a.length ≤ 100000) (wa : ∀ y ∈ a, Wf .u8 y) (wb : ∀ y ∈ b, Wf .u8 y) : mac_Equal.m KK a b = some (a == b) := by
  unfold mac_Equal.m
  by_cases hl : (a.length : Int) = (b.length : Int)
  · rw [if_pos hl]
    have step : ∀ (k : Nat) (v : Nat) (i : Int), v < 256 → 0 ≤ i → i ≤ (a.length : Int) → (a.length : Int) - i < k →
        ∃ w : Nat, mac_Equal.l1.m KK a b k v i = some (w : Int) ∧ (w = 0 ↔ v = 0 ∧ a.drop i.toNat = b.drop i.toNat) := by
      intro k
      induction k with
      | zero => intro v i _ h0 h1 h2; omega
      | succ k ih =>
        intro v i hv h0 h1 h2
        rw [mac_Equal.l1.m]
        simp only [letJ]
        by_cases h3 : i < (a.length : Int)
        · rw [if_pos h3, cond_true, if_pos h0, if_pos h3, if_pos (by omega)]
          have b1 := b_u8 (wa _ (at_mem h0 h3))
          have b2 := b_u8 (wb _ (at_mem (l := b) h0 (by omega)))
          rw [drop_at h0 h3, drop_at (l := b) h0 (by omega)]
          generalize at_ a i = x at *
          generalize at_ b i = y at *
          obtain ⟨x, rfl⟩ := Int.eq_ofNat_of_zero_le b1.1
          obtain ⟨y, rfl⟩ := Int.eq_ofNat_of_zero_le b2.1
          have hxy := Nat.xor_lt_two_pow (n := 8) (x := x) (y := y) (by omega) (by omega)
          rw [bXor8 (by omega) (by omega), bOr8 hv (by omega), w64_id (n := i + 1) (by omega) (by omega)]
          obtain ⟨w, e, hw⟩ := ih (v ||| (x ^^^ y)) (i + 1) (Nat.or_lt_two_pow (n := 8) hv hxy) (by omega) (by omega) (by omega)
          refine ⟨w, e, hw.trans ?_⟩
          rw [Nat.or_eq_zero_iff, nat_xor_zero]
          simp only [List.cons.injEq, Int.ofNat_inj, and_assoc]
        · rw [if_neg h3, cond_false]
          refine ⟨v, rfl, ?_⟩
          rw [List.drop_eq_nil_of_le (by omega), List.drop_eq_nil_of_le (by omega)]; simp
    obtain ⟨w, e, hw⟩ := step KK 0 0 (by omega) (by omega) (by omega) (by unfold KK; omega)
    have e' : mac_Equal.l1.m KK a b KK 0 0 = some (w : Int) := e
    rw [e', Option.bind_some]
    simp only [Int.toNat_zero, List.drop_zero, true_and] at hw
    congr 1
    by_cases h : a = b
    · have := hw.2 h
      subst this; subst h
      exact (beq_self_eq_true _).trans (beq_self_eq_true _).symm
    · have h2 : ¬ ((w : Int) = 0) := fun z => h (hw.1 (by omega))
      rw [beq_eq_false_iff_ne.2 h2, beq_eq_false_iff_ne.2 h]
  · rw [if_neg hl]
    have : a ≠ b := fun e => hl (by rw [e])
    simp [this]
end Go.Proofs.YtjkbhpokboolpaaGreatDoor.Sx

namespace Go.Proofs.YtjkbhpokboolpaaGreatDoor.Sx
open Go
def Wd (x : Int) : Prop := 0 ≤ x ∧ x < 4294967296
theorem Wd.nat {x : Int} (w : Wd x) : ∃ n : Nat, x = n ∧ n < 4294967296 := ⟨x.toNat, by have := w.1; omega, by have := w.1; have := w.2; omega⟩
theorem wd_nat {n : Nat} (h : n < 4294967296) : Wd (n : Int) := ⟨by omega, by omega⟩
theorem wd_wrap (n : Int) : Wd (IntKind.u32.wrap n) := by rw [wrap_u32]; exact ⟨by omega, by omega⟩
theorem bXor32 {x y : Nat} (hx : x < 4294967296) (hy : y < 4294967296) : bXor .u32 (x : Int) (y : Int) = ((x ^^^ y : Nat) : Int) := by
  unfold bXor
  have h := Nat.xor_lt_two_pow (n := 32) hx hy
  rw [BitVec.toNat_xor, toNat_ofInt (by exact hx), toNat_ofInt (by exact hy), wrap_u32]; omega
theorem bOr32 {x y : Nat} (hx : x < 4294967296) (hy : y < 4294967296) : bOr .u32 (x : Int) (y : Int) = ((x ||| y : Nat) : Int) := by
  unfold bOr
  have h := Nat.or_lt_two_pow (n := 32) hx hy
  rw [BitVec.toNat_or, toNat_ofInt (by exact hx), toNat_ofInt (by exact hy), wrap_u32]; omega
theorem bAnd32 {x y : Nat} (hx : x < 4294967296) (hy : y < 4294967296) : bAnd .u32 (x : Int) (y : Int) = ((x &&& y : Nat) : Int) := by
  unfold bAnd
  have h := Nat.and_lt_two_pow (n := 32) x hy
  rw [BitVec.toNat_and, toNat_ofInt (by exact hx), toNat_ofInt (by exact hy), wrap_u32]; omega
theorem wrap_i64' {n : Int} (h0 : 0 ≤ n) (h1 : n < 9223372036854775808) : IntKind.i64.wrap n = n := w64_id (by omega) (by omega)
theorem bXor64 {x y : Nat} (hx : x < 9223372036854775808) (hy : y < 9223372036854775808) : bXor .i64 (x : Int) (y : Int) = ((x ^^^ y : Nat) : Int) := by
  show IntKind.i64.wrap (((BitVec.ofInt 64 (x : Int) ^^^ BitVec.ofInt 64 (y : Int)).toNat : Nat) : Int) = _
  have h := Nat.xor_lt_two_pow (n := 63) hx hy
  rw [BitVec.toNat_xor, toNat_ofInt (show x < 2 ^ 64 by omega), toNat_ofInt (show y < 2 ^ 64 by omega), wrap_i64' (by omega) (by omega)]
theorem bOr64 {x y : Nat} (hx : x < 9223372036854775808) (hy : y < 9223372036854775808) : bOr .i64 (x : Int) (y : Int) = ((x ||| y : Nat) : Int) := by
  show IntKind.i64.wrap (((BitVec.ofInt 64 (x : Int) ||| BitVec.ofInt 64 (y : Int)).toNat : Nat) : Int) = _
  have h := Nat.or_lt_two_pow (n := 63) hx hy
  rw [BitVec.toNat_or, toNat_ofInt (show x < 2 ^ 64 by omega), toNat_ofInt (show y < 2 ^ 64 by omega), wrap_i64' (by omega) (by omega)]
theorem bAnd64 {x y : Nat} (hx : x < 9223372036854775808) (hy : y < 9223372036854775808) : bAnd .i64 (x : Int) (y : Int) = ((x &&& y : Nat) : Int) := by
  show IntKind.i64.wrap (((BitVec.ofInt 64 (x : Int) &&& BitVec.ofInt 64 (y : Int)).toNat : Nat) : Int) = _
  have h := Nat.and_lt_two_pow (n := 63) x hy
  rw [BitVec.toNat_and, toNat_ofInt (show x < 2 ^ 64 by omega), toNat_ofInt (show y < 2 ^ 64 by omega), wrap_i64' (by omega) (by omega)]
theorem xor_same {x y : Int} (hx : Wd x) (hy : Wd y) : bXor .i64 x y = bXor .u32 x y ∧ Wd (bXor .u32 x y) := by
  obtain ⟨x, rfl, h1⟩ := hx.nat
  obtain ⟨y, rfl, h2⟩ := hy.nat
  rw [bXor64 (by omega) (by omega), bXor32 h1 h2]
  exact ⟨rfl, wd_nat (Nat.xor_lt_two_pow (n := 32) h1 h2)⟩
theorem and_same {x y : Int} (hx : Wd x) (hy : Wd y) : bAnd .i64 x y = bAnd .u32 x y ∧ Wd (bAnd .u32 x y) := by
  obtain ⟨x, rfl, h1⟩ := hx.nat
  obtain ⟨y, rfl, h2⟩ := hy.nat
  rw [bAnd64 (by omega) (by omega), bAnd32 h1 h2]
  exact ⟨rfl, wd_nat (Nat.and_lt_two_pow (n := 32) x h2)⟩
theorem not_same {x : Int} (hx : Wd x) : w64 (4294967295 - x) = bXor .u32 4294967295 x ∧ Wd (bXor .u32 4294967295 x) := by
  obtain ⟨x, rfl, h1⟩ := hx.nat
  have e : bXor .u32 4294967295 (x : Int) = ((4294967295 ^^^ x : Nat) : Int) := bXor32 (x := 4294967295) (by omega) h1
  have e2 : 4294967295 ^^^ x = 4294967295 - x := by
    have h := BitVec.toNat_xor (BitVec.allOnes 32) (BitVec.ofNat 32 x)
    rw [BitVec.allOnes_xor, BitVec.toNat_not, BitVec.toNat_allOnes, BitVec.toNat_ofNat, Nat.mod_eq_of_lt (by omega)] at h
    exact h.symm
  rw [e, e2, w64_id (by omega) (by omega)]
  exact ⟨by omega, wd_nat (by omega)⟩
def rot (x n : Int) : Int := bOr .u32 (shr .u32 x n) (shl .u32 x (32 - n))
theorem pow_nat {n : Nat} : ((2 : Int) ^ n) = ((2 ^ n : Nat) : Int) := by rw [Int.natCast_pow]; rfl
theorem shr_nat {k : IntKind} {x n : Nat} (hn : n ≤ 32) (hk : 32 ≤ k.bits) : shr k (x : Int) (n : Int) = ((x / 2 ^ n : Nat) : Int) := by
  unfold shr
  rw [Int.toNat_natCast, Nat.min_eq_left (by omega), pow_nat, Int.fdiv_eq_ediv_of_nonneg _ (Int.natCast_nonneg _), Int.natCast_ediv]
theorem rot_nat {x n : Nat} (hx : x < 4294967296) (h1 : n ≤ 32) : rot (x : Int) (n : Int) = ((x / 2 ^ n ||| x * 2 ^ (32 - n) % 4294967296 : Nat) : Int) := by
  unfold rot
  have e1 : shr .u32 (x : Int) (n : Int) = ((x / 2 ^ n : Nat) : Int) := shr_nat (by omega) (by decide)
  have e2 : shl .u32 (x : Int) (32 - (n : Int)) = ((x * 2 ^ (32 - n) % 4294967296 : Nat) : Int) := by
    unfold shl
    have : (32 - (n : Int)).toNat = 32 - n := by omega
    rw [this, Nat.min_eq_left (by show 32 - n ≤ 32; omega), wrap_u32, pow_nat, ← Int.natCast_mul]
    generalize x * 2 ^ (32 - n) = y
    omega
  have l1 : x / 2 ^ n < 4294967296 := Nat.lt_of_le_of_lt (Nat.div_le_self _ _) hx
  rw [e1, e2, bOr32 l1 (Nat.mod_lt _ (by omega))]
theorem rot_same {x : Int} (hx : Wd x) {n : Nat} (h0 : 0 < n) (h1 : n < 32) : bAnd .i64 (bOr .i64 (shr .i64 x (n : Int)) (shl .i64 x (32 - (n : Int)))) 4294967295 = rot x n ∧ Wd (rot x n) := by
  obtain ⟨x, rfl, hx'⟩ := hx.nat
  clear hx
  have hx := hx'
  have e1 : shr .i64 (x : Int) (n : Int) = ((x / 2 ^ n : Nat) : Int) := shr_nat (by omega) (by decide)
  have hp : x * 2 ^ (32 - n) < 9223372036854775808 := by
    have : 2 ^ (32 - n) ≤ 2 ^ 31 := Nat.pow_le_pow_right (by omega) (by omega)
    have h2 : x * 2 ^ (32 - n) ≤ x * 2 ^ 31 := Nat.mul_le_mul_left _ this
    omega
  have e2 : shl .i64 (x : Int) (32 - (n : Int)) = ((x * 2 ^ (32 - n) : Nat) : Int) := by
    unfold shl
    have : (32 - (n : Int)).toNat = 32 - n := by omega
    rw [this, Nat.min_eq_left (by show 32 - n ≤ 64; omega), pow_nat, ← Int.natCast_mul]
    exact wrap_i64' (by omega) (by omega)
  have l1 : x / 2 ^ n < 4294967296 := Nat.lt_of_le_of_lt (Nat.div_le_self _ _) hx
  have l2 : (x / 2 ^ n ||| x * 2 ^ (32 - n)) < 9223372036854775808 := Nat.or_lt_two_pow (n := 63) (by omega) hp
  rw [e1, e2, bOr64 (by omega) hp, show (4294967295 : Int) = ((4294967295 : Nat) : Int) from rfl, bAnd64 l2 (by omega), rot_nat hx (by omega)]
  have e3 : (x / 2 ^ n ||| x * 2 ^ (32 - n)) &&& 4294967295 = (x / 2 ^ n ||| x * 2 ^ (32 - n) % 4294967296) := by
    rw [show 4294967295 = 2 ^ 32 - 1 from rfl, Nat.and_two_pow_sub_one_eq_mod, Nat.or_mod_two_pow, Nat.mod_eq_of_lt (show x / 2 ^ n < 2 ^ 32 from l1)]
  rw [e3]
  exact ⟨rfl, wd_nat (Nat.or_lt_two_pow (n := 32) l1 (Nat.mod_lt _ (by omega)))⟩
end Go.Proofs.YtjkbhpokboolpaaGreatDoor.Sx

namespace Go.Proofs.YtjkbhpokboolpaaGreatDoor.Sx
open Go
set_option maxRecDepth 100000
theorem turn_eq {x : Int} {n : Int} (h0 : 0 ≤ n) (h1 : n ≤ 32) : hash_turn.m x n = some (rot x n) := by
  unfold hash_turn.m rot
  rw [if_pos h0, w64_id (n := 32 - n) (by omega) (by omega), if_pos (by omega)]
theorem refturn_eq {x : Int} (hx : Wd x) {n : Nat} (h0 : 0 < n) (h1 : n < 32) : shutterref01_turn.m x (n : Int) = some (rot x n) := by
  unfold shutterref01_turn.m
  rw [w64_id (n := 32 - (n : Int)) (by omega) (by omega), wrap_u64, wrap_u64, Int.emod_eq_of_lt (by omega) (by omega), Int.emod_eq_of_lt (by omega) (by omega), if_pos (by omega), if_pos (by omega), (rot_same hx h0 h1).1]
theorem both_eq {x y : Int} (hx : Wd x) (hy : Wd y) : shutterref01_both.m x y = some (bAnd .u32 x y) := by
  unfold shutterref01_both.m; rw [(and_same hx hy).1]
theorem allNu {N : Nat} {p : Int → Bool} (h : (List.range N).all (fun k => p (k : Int)) = true) {x : Int} (h0 : 0 ≤ x) (h1 : x < (N : Int)) : p x = true := by
  have := List.all_eq_true.1 h x.toNat (List.mem_range.2 (by omega))
  rwa [Int.toNat_of_nonneg h0] at this
def kt (i : Int) : Int := (shutterref01_Word.m KK (⟨#[52, 50, 56, 97, 50, 102, 57, 56, 55, 49, 51, 55, 52, 52, 57, 49, 98, 53, 99, 48, 102, 98, 99, 102, 101, 57, 98, 53, 100, 98, 97, 53, 51, 57, 53, 54, 99, 50, 53, 98, 53, 57, 102, 49, 49, 49, 102, 49, 57, 50, 51, 102, 56, 50, 97, 52, 97, 98, 49, 99, 53, 101, 100, 53, 100, 56, 48, 55, 97, 97, 57, 56, 49, 50, 56, 51, 53, 98, 48, 49, 50, 52, 51, 49, 56, 53, 98, 101, 53, 53, 48, 99, 55, 100, 99, 51, 55, 50, 98, 101, 53, 100, 55, 52, 56, 48, 100, 101, 98, 49, 102, 101, 57, 98, 100, 99, 48, 54, 97, 55, 99, 49, 57, 98, 102, 49, 55, 52, 101, 52, 57, 98, 54, 57, 99, 49, 101, 102, 98, 101, 52, 55, 56, 54, 48, 102, 99, 49, 57, 100, 99, 54, 50, 52, 48, 99, 97, 49, 99, 99, 50, 100, 101, 57, 50, 99, 54, 102, 52, 97, 55, 52, 56, 52, 97, 97, 53, 99, 98, 48, 97, 57, 100, 99, 55, 54, 102, 57, 56, 56, 100, 97, 57, 56, 51, 101, 53, 49, 53, 50, 97, 56, 51, 49, 99, 54, 54, 100, 98, 48, 48, 51, 50, 55, 99, 56, 98, 102, 53, 57, 55, 102, 99, 55, 99, 54, 101, 48, 48, 98, 102, 51, 100, 53, 97, 55, 57, 49, 52, 55, 48, 54, 99, 97, 54, 51, 53, 49, 49, 52, 50, 57, 50, 57, 54, 55, 50, 55, 98, 55, 48, 97, 56, 53, 50, 101, 49, 98, 50, 49, 51, 56, 52, 100, 50, 99, 54, 100, 102, 99, 53, 51, 51, 56, 48, 100, 49, 51, 54, 53, 48, 97, 55, 51, 53, 52, 55, 54, 54, 97, 48, 97, 98, 98, 56, 49, 99, 50, 99, 57, 50, 101, 57, 50, 55, 50, 50, 99, 56, 53, 97, 50, 98, 102, 101, 56, 97, 49, 97, 56, 49, 97, 54, 54, 52, 98, 99, 50, 52, 98, 56, 98, 55, 48, 99, 55, 54, 99, 53, 49, 97, 51, 100, 49, 57, 50, 101, 56, 49, 57, 100, 54, 57, 57, 48, 54, 50, 52, 102, 52, 48, 101, 51, 53, 56, 53, 49, 48, 54, 97, 97, 48, 55, 48, 49, 57, 97, 52, 99, 49, 49, 54, 49, 101, 51, 55, 54, 99, 48, 56, 50, 55, 52, 56, 55, 55, 52, 99, 51, 52, 98, 48, 98, 99, 98, 53, 51, 57, 49, 99, 48, 99, 98, 51, 52, 101, 100, 56, 97, 97, 52, 97, 53, 98, 57, 99, 99, 97, 52, 102, 54, 56, 50, 101, 54, 102, 102, 51, 55, 52, 56, 102, 56, 50, 101, 101, 55, 56, 97, 53, 54, 51, 54, 102, 56, 52, 99, 56, 55, 56, 49, 52, 56, 99, 99, 55, 48, 50, 48, 56, 57, 48, 98, 101, 102, 102, 102, 97, 97, 52, 53, 48, 54, 99, 101, 98, 98, 101, 102, 57, 97, 51, 102, 55, 99, 54, 55, 49, 55, 56, 102, 50]⟩ : ByteArray) i).getD 0
def ktOk (i : Int) : Bool := (shutterref01_Word.m KK (⟨#[52, 50, 56, 97, 50, 102, 57, 56, 55, 49, 51, 55, 52, 52, 57, 49, 98, 53, 99, 48, 102, 98, 99, 102, 101, 57, 98, 53, 100, 98, 97, 53, 51, 57, 53, 54, 99, 50, 53, 98, 53, 57, 102, 49, 49, 49, 102, 49, 57, 50, 51, 102, 56, 50, 97, 52, 97, 98, 49, 99, 53, 101, 100, 53, 100, 56, 48, 55, 97, 97, 57, 56, 49, 50, 56, 51, 53, 98, 48, 49, 50, 52, 51, 49, 56, 53, 98, 101, 53, 53, 48, 99, 55, 100, 99, 51, 55, 50, 98, 101, 53, 100, 55, 52, 56, 48, 100, 101, 98, 49, 102, 101, 57, 98, 100, 99, 48, 54, 97, 55, 99, 49, 57, 98, 102, 49, 55, 52, 101, 52, 57, 98, 54, 57, 99, 49, 101, 102, 98, 101, 52, 55, 56, 54, 48, 102, 99, 49, 57, 100, 99, 54, 50, 52, 48, 99, 97, 49, 99, 99, 50, 100, 101, 57, 50, 99, 54, 102, 52, 97, 55, 52, 56, 52, 97, 97, 53, 99, 98, 48, 97, 57, 100, 99, 55, 54, 102, 57, 56, 56, 100, 97, 57, 56, 51, 101, 53, 49, 53, 50, 97, 56, 51, 49, 99, 54, 54, 100, 98, 48, 48, 51, 50, 55, 99, 56, 98, 102, 53, 57, 55, 102, 99, 55, 99, 54, 101, 48, 48, 98, 102, 51, 100, 53, 97, 55, 57, 49, 52, 55, 48, 54, 99, 97, 54, 51, 53, 49, 49, 52, 50, 57, 50, 57, 54, 55, 50, 55, 98, 55, 48, 97, 56, 53, 50, 101, 49, 98, 50, 49, 51, 56, 52, 100, 50, 99, 54, 100, 102, 99, 53, 51, 51, 56, 48, 100, 49, 51, 54, 53, 48, 97, 55, 51, 53, 52, 55, 54, 54, 97, 48, 97, 98, 98, 56, 49, 99, 50, 99, 57, 50, 101, 57, 50, 55, 50, 50, 99, 56, 53, 97, 50, 98, 102, 101, 56, 97, 49, 97, 56, 49, 97, 54, 54, 52, 98, 99, 50, 52, 98, 56, 98, 55, 48, 99, 55, 54, 99, 53, 49, 97, 51, 100, 49, 57, 50, 101, 56, 49, 57, 100, 54, 57, 57, 48, 54, 50, 52, 102, 52, 48, 101, 51, 53, 56, 53, 49, 48, 54, 97, 97, 48, 55, 48, 49, 57, 97, 52, 99, 49, 49, 54, 49, 101, 51, 55, 54, 99, 48, 56, 50, 55, 52, 56, 55, 55, 52, 99, 51, 52, 98, 48, 98, 99, 98, 53, 51, 57, 49, 99, 48, 99, 98, 51, 52, 101, 100, 56, 97, 97, 52, 97, 53, 98, 57, 99, 99, 97, 52, 102, 54, 56, 50, 101, 54, 102, 102, 51, 55, 52, 56, 102, 56, 50, 101, 101, 55, 56, 97, 53, 54, 51, 54, 102, 56, 52, 99, 56, 55, 56, 49, 52, 56, 99, 99, 55, 48, 50, 48, 56, 57, 48, 98, 101, 102, 102, 102, 97, 97, 52, 53, 48, 54, 99, 101, 98, 98, 101, 102, 57, 97, 51, 102, 55, 99, 54, 55, 49, 55, 56, 102, 50]⟩ : ByteArray) i == some (kt i)) && (hash_digits.m KK (⟨#[52, 50, 56, 97, 50, 102, 57, 56, 55, 49, 51, 55, 52, 52, 57, 49, 98, 53, 99, 48, 102, 98, 99, 102, 101, 57, 98, 53, 100, 98, 97, 53, 51, 57, 53, 54, 99, 50, 53, 98, 53, 57, 102, 49, 49, 49, 102, 49, 57, 50, 51, 102, 56, 50, 97, 52, 97, 98, 49, 99, 53, 101, 100, 53, 100, 56, 48, 55, 97, 97, 57, 56, 49, 50, 56, 51, 53, 98, 48, 49, 50, 52, 51, 49, 56, 53, 98, 101, 53, 53, 48, 99, 55, 100, 99, 51, 55, 50, 98, 101, 53, 100, 55, 52, 56, 48, 100, 101, 98, 49, 102, 101, 57, 98, 100, 99, 48, 54, 97, 55, 99, 49, 57, 98, 102, 49, 55, 52, 101, 52, 57, 98, 54, 57, 99, 49, 101, 102, 98, 101, 52, 55, 56, 54, 48, 102, 99, 49, 57, 100, 99, 54, 50, 52, 48, 99, 97, 49, 99, 99, 50, 100, 101, 57, 50, 99, 54, 102, 52, 97, 55, 52, 56, 52, 97, 97, 53, 99, 98, 48, 97, 57, 100, 99, 55, 54, 102, 57, 56, 56, 100, 97, 57, 56, 51, 101, 53, 49, 53, 50, 97, 56, 51, 49, 99, 54, 54, 100, 98, 48, 48, 51, 50, 55, 99, 56, 98, 102, 53, 57, 55, 102, 99, 55, 99, 54, 101, 48, 48, 98, 102, 51, 100, 53, 97, 55, 57, 49, 52, 55, 48, 54, 99, 97, 54, 51, 53, 49, 49, 52, 50, 57, 50, 57, 54, 55, 50, 55, 98, 55, 48, 97, 56, 53, 50, 101, 49, 98, 50, 49, 51, 56, 52, 100, 50, 99, 54, 100, 102, 99, 53, 51, 51, 56, 48, 100, 49, 51, 54, 53, 48, 97, 55, 51, 53, 52, 55, 54, 54, 97, 48, 97, 98, 98, 56, 49, 99, 50, 99, 57, 50, 101, 57, 50, 55, 50, 50, 99, 56, 53, 97, 50, 98, 102, 101, 56, 97, 49, 97, 56, 49, 97, 54, 54, 52, 98, 99, 50, 52, 98, 56, 98, 55, 48, 99, 55, 54, 99, 53, 49, 97, 51, 100, 49, 57, 50, 101, 56, 49, 57, 100, 54, 57, 57, 48, 54, 50, 52, 102, 52, 48, 101, 51, 53, 56, 53, 49, 48, 54, 97, 97, 48, 55, 48, 49, 57, 97, 52, 99, 49, 49, 54, 49, 101, 51, 55, 54, 99, 48, 56, 50, 55, 52, 56, 55, 55, 52, 99, 51, 52, 98, 48, 98, 99, 98, 53, 51, 57, 49, 99, 48, 99, 98, 51, 52, 101, 100, 56, 97, 97, 52, 97, 53, 98, 57, 99, 99, 97, 52, 102, 54, 56, 50, 101, 54, 102, 102, 51, 55, 52, 56, 102, 56, 50, 101, 101, 55, 56, 97, 53, 54, 51, 54, 102, 56, 52, 99, 56, 55, 56, 49, 52, 56, 99, 99, 55, 48, 50, 48, 56, 57, 48, 98, 101, 102, 102, 102, 97, 97, 52, 53, 48, 54, 99, 101, 98, 98, 101, 102, 57, 97, 51, 102, 55, 99, 54, 55, 49, 55, 56, 102, 50]⟩ : ByteArray) i == some (kt i)) && decide (0 ≤ kt i) && decide (kt i < 4294967296)
theorem kt_all : (List.range 64).all (fun j => ktOk (j : Int)) = true := by kernel_rfl
theorem kt_eq {i : Int} (h0 : 0 ≤ i) (h1 : i < 64) : shutterref01_Word.m KK (⟨#[52, 50, 56, 97, 50, 102, 57, 56, 55, 49, 51, 55, 52, 52, 57, 49, 98, 53, 99, 48, 102, 98, 99, 102, 101, 57, 98, 53, 100, 98, 97, 53, 51, 57, 53, 54, 99, 50, 53, 98, 53, 57, 102, 49, 49, 49, 102, 49, 57, 50, 51, 102, 56, 50, 97, 52, 97, 98, 49, 99, 53, 101, 100, 53, 100, 56, 48, 55, 97, 97, 57, 56, 49, 50, 56, 51, 53, 98, 48, 49, 50, 52, 51, 49, 56, 53, 98, 101, 53, 53, 48, 99, 55, 100, 99, 51, 55, 50, 98, 101, 53, 100, 55, 52, 56, 48, 100, 101, 98, 49, 102, 101, 57, 98, 100, 99, 48, 54, 97, 55, 99, 49, 57, 98, 102, 49, 55, 52, 101, 52, 57, 98, 54, 57, 99, 49, 101, 102, 98, 101, 52, 55, 56, 54, 48, 102, 99, 49, 57, 100, 99, 54, 50, 52, 48, 99, 97, 49, 99, 99, 50, 100, 101, 57, 50, 99, 54, 102, 52, 97, 55, 52, 56, 52, 97, 97, 53, 99, 98, 48, 97, 57, 100, 99, 55, 54, 102, 57, 56, 56, 100, 97, 57, 56, 51, 101, 53, 49, 53, 50, 97, 56, 51, 49, 99, 54, 54, 100, 98, 48, 48, 51, 50, 55, 99, 56, 98, 102, 53, 57, 55, 102, 99, 55, 99, 54, 101, 48, 48, 98, 102, 51, 100, 53, 97, 55, 57, 49, 52, 55, 48, 54, 99, 97, 54, 51, 53, 49, 49, 52, 50, 57, 50, 57, 54, 55, 50, 55, 98, 55, 48, 97, 56, 53, 50, 101, 49, 98, 50, 49, 51, 56, 52, 100, 50, 99, 54, 100, 102, 99, 53, 51, 51, 56, 48, 100, 49, 51, 54, 53, 48, 97, 55, 51, 53, 52, 55, 54, 54, 97, 48, 97, 98, 98, 56, 49, 99, 50, 99, 57, 50, 101, 57, 50, 55, 50, 50, 99, 56, 53, 97, 50, 98, 102, 101, 56, 97, 49, 97, 56, 49, 97, 54, 54, 52, 98, 99, 50, 52, 98, 56, 98, 55, 48, 99, 55, 54, 99, 53, 49, 97, 51, 100, 49, 57, 50, 101, 56, 49, 57, 100, 54, 57, 57, 48, 54, 50, 52, 102, 52, 48, 101, 51, 53, 56, 53, 49, 48, 54, 97, 97, 48, 55, 48, 49, 57, 97, 52, 99, 49, 49, 54, 49, 101, 51, 55, 54, 99, 48, 56, 50, 55, 52, 56, 55, 55, 52, 99, 51, 52, 98, 48, 98, 99, 98, 53, 51, 57, 49, 99, 48, 99, 98, 51, 52, 101, 100, 56, 97, 97, 52, 97, 53, 98, 57, 99, 99, 97, 52, 102, 54, 56, 50, 101, 54, 102, 102, 51, 55, 52, 56, 102, 56, 50, 101, 101, 55, 56, 97, 53, 54, 51, 54, 102, 56, 52, 99, 56, 55, 56, 49, 52, 56, 99, 99, 55, 48, 50, 48, 56, 57, 48, 98, 101, 102, 102, 102, 97, 97, 52, 53, 48, 54, 99, 101, 98, 98, 101, 102, 57, 97, 51, 102, 55, 99, 54, 55, 49, 55, 56, 102, 50]⟩ : ByteArray) i = some (kt i) ∧ hash_digits.m KK (⟨#[52, 50, 56, 97, 50, 102, 57, 56, 55, 49, 51, 55, 52, 52, 57, 49, 98, 53, 99, 48, 102, 98, 99, 102, 101, 57, 98, 53, 100, 98, 97, 53, 51, 57, 53, 54, 99, 50, 53, 98, 53, 57, 102, 49, 49, 49, 102, 49, 57, 50, 51, 102, 56, 50, 97, 52, 97, 98, 49, 99, 53, 101, 100, 53, 100, 56, 48, 55, 97, 97, 57, 56, 49, 50, 56, 51, 53, 98, 48, 49, 50, 52, 51, 49, 56, 53, 98, 101, 53, 53, 48, 99, 55, 100, 99, 51, 55, 50, 98, 101, 53, 100, 55, 52, 56, 48, 100, 101, 98, 49, 102, 101, 57, 98, 100, 99, 48, 54, 97, 55, 99, 49, 57, 98, 102, 49, 55, 52, 101, 52, 57, 98, 54, 57, 99, 49, 101, 102, 98, 101, 52, 55, 56, 54, 48, 102, 99, 49, 57, 100, 99, 54, 50, 52, 48, 99, 97, 49, 99, 99, 50, 100, 101, 57, 50, 99, 54, 102, 52, 97, 55, 52, 56, 52, 97, 97, 53, 99, 98, 48, 97, 57, 100, 99, 55, 54, 102, 57, 56, 56, 100, 97, 57, 56, 51, 101, 53, 49, 53, 50, 97, 56, 51, 49, 99, 54, 54, 100, 98, 48, 48, 51, 50, 55, 99, 56, 98, 102, 53, 57, 55, 102, 99, 55, 99, 54, 101, 48, 48, 98, 102, 51, 100, 53, 97, 55, 57, 49, 52, 55, 48, 54, 99, 97, 54, 51, 53, 49, 49, 52, 50, 57, 50, 57, 54, 55, 50, 55, 98, 55, 48, 97, 56, 53, 50, 101, 49, 98, 50, 49, 51, 56, 52, 100, 50, 99, 54, 100, 102, 99, 53, 51, 51, 56, 48, 100, 49, 51, 54, 53, 48, 97, 55, 51, 53, 52, 55, 54, 54, 97, 48, 97, 98, 98, 56, 49, 99, 50, 99, 57, 50, 101, 57, 50, 55, 50, 50, 99, 56, 53, 97, 50, 98, 102, 101, 56, 97, 49, 97, 56, 49, 97, 54, 54, 52, 98, 99, 50, 52, 98, 56, 98, 55, 48, 99, 55, 54, 99, 53, 49, 97, 51, 100, 49, 57, 50, 101, 56, 49, 57, 100, 54, 57, 57, 48, 54, 50, 52, 102, 52, 48, 101, 51, 53, 56, 53, 49, 48, 54, 97, 97, 48, 55, 48, 49, 57, 97, 52, 99, 49, 49, 54, 49, 101, 51, 55, 54, 99, 48, 56, 50, 55, 52, 56, 55, 55, 52, 99, 51, 52, 98, 48, 98, 99, 98, 53, 51, 57, 49, 99, 48, 99, 98, 51, 52, 101, 100, 56, 97, 97, 52, 97, 53, 98, 57, 99, 99, 97, 52, 102, 54, 56, 50, 101, 54, 102, 102, 51, 55, 52, 56, 102, 56, 50, 101, 101, 55, 56, 97, 53, 54, 51, 54, 102, 56, 52, 99, 56, 55, 56, 49, 52, 56, 99, 99, 55, 48, 50, 48, 56, 57, 48, 98, 101, 102, 102, 102, 97, 97, 52, 53, 48, 54, 99, 101, 98, 98, 101, 102, 57, 97, 51, 102, 55, 99, 54, 55, 49, 55, 56, 102, 50]⟩ : ByteArray) i = some (kt i) ∧ Wd (kt i) := by
  have := allNu (p := ktOk) kt_all h0 h1
  unfold ktOk at this
  simp only [Bool.and_eq_true, beq_iff_eq, decide_eq_true_eq] at this
  exact ⟨this.1.1.1, this.1.1.2, this.1.2, this.2⟩
theorem or_add {x y k : Nat} (h : y < 2 ^ k) : x * 2 ^ k ||| y = x * 2 ^ k + y := by rw [← Nat.shiftLeft_eq, Nat.shiftLeft_add_eq_or_of_lt h]
theorem shl_nat {x n : Nat} (hn : n ≤ 32) (h : x * 2 ^ n < 4294967296) : shl .u32 (x : Int) (n : Int) = ((x * 2 ^ n : Nat) : Int) := by
  unfold shl
  rw [Int.toNat_natCast, Nat.min_eq_left (by show n ≤ 32; omega), wrap_u32, pow_nat, ← Int.natCast_mul]
  generalize x * 2 ^ n = y at *
  omega
theorem f2aux (x c : Nat) : x * 65536 + c * 256 = (x * 256 + c) * 256 := by omega
def wordOf (a b c d : Int) : Int := 16777216 * a + 65536 * b + 256 * c + d
theorem word_prog {a b c d : Int} (ha : 0 ≤ a ∧ a ≤ 255) (hb : 0 ≤ b ∧ b ≤ 255) (hc : 0 ≤ c ∧ c ≤ 255) (hd : 0 ≤ d ∧ d ≤ 255) :
    bOr .u32 (bOr .u32 (bOr .u32 (shl .u32 (IntKind.u32.wrap a) 24) (shl .u32 (IntKind.u32.wrap b) 16)) (shl .u32 (IntKind.u32.wrap c) 8)) (IntKind.u32.wrap d) = wordOf a b c d ∧ Wd (wordOf a b c d) := by
  rw [wrap_u32, wrap_u32, wrap_u32, wrap_u32, Int.emod_eq_of_lt ha.1 (by omega), Int.emod_eq_of_lt hb.1 (by omega), Int.emod_eq_of_lt hc.1 (by omega), Int.emod_eq_of_lt hd.1 (by omega)]
  obtain ⟨a, rfl⟩ := Int.eq_ofNat_of_zero_le ha.1
  obtain ⟨b, rfl⟩ := Int.eq_ofNat_of_zero_le hb.1
  obtain ⟨c, rfl⟩ := Int.eq_ofNat_of_zero_le hc.1
  obtain ⟨d, rfl⟩ := Int.eq_ofNat_of_zero_le hd.1
  have e1 : shl .u32 (a : Int) 24 = ((a * 2 ^ 24 : Nat) : Int) := shl_nat (n := 24) (by omega) (by omega)
  have e2 : shl .u32 (b : Int) 16 = ((b * 2 ^ 16 : Nat) : Int) := shl_nat (n := 16) (by omega) (by omega)
  have e3 : shl .u32 (c : Int) 8 = ((c * 2 ^ 8 : Nat) : Int) := shl_nat (n := 8) (by omega) (by omega)
  rw [e1, e2, e3, bOr32 (by omega) (by omega), or_add (k := 24) (by omega)]
  have f1 : a * 2 ^ 24 + b * 2 ^ 16 = (a * 256 + b) * 2 ^ 16 := by omega
  rw [f1, bOr32 (by omega) (by omega), or_add (k := 16) (by omega)]
  have f2 : (a * 256 + b) * 2 ^ 16 + c * 2 ^ 8 = ((a * 256 + b) * 256 + c) * 2 ^ 8 := f2aux _ _
  rw [f2, bOr32 (by omega) (by omega), or_add (k := 8) (by omega)]
  unfold wordOf Wd
  omega
theorem word_ref {a b c d : Int} (ha : 0 ≤ a ∧ a ≤ 255) (hb : 0 ≤ b ∧ b ≤ 255) (hc : 0 ≤ c ∧ c ≤ 255) (hd : 0 ≤ d ∧ d ≤ 255) :
    w64 (w64 (w64 (w64 (16777216 * w64 a) + w64 (65536 * w64 b)) + w64 (256 * w64 c)) + w64 d) = wordOf a b c d := by
  rw [w64_id (n := a) (by omega) (by omega), w64_id (n := b) (by omega) (by omega), w64_id (n := c) (by omega) (by omega), w64_id (n := d) (by omega) (by omega), w64_id (n := 16777216 * a) (by omega) (by omega), w64_id (n := 65536 * b) (by omega) (by omega), w64_id (n := 256 * c) (by omega) (by omega),
    w64_id (n := 16777216 * a + 65536 * b) (by omega) (by omega), w64_id (n := 16777216 * a + 65536 * b + 256 * c) (by omega) (by omega), w64_id (by omega) (by omega)]
  rfl
theorem tmod32 {n : Int} (h0 : 0 ≤ n) : Int.tmod n 4294967296 = IntKind.u32.wrap n := by rw [wrap_u32, Int.tmod_eq_emod_of_nonneg h0]
theorem sum2 {a b : Int} (ha : Wd a) (hb : Wd b) : Int.tmod (w64 (a + b)) 4294967296 = IntKind.u32.wrap (a + b) := by
  have := ha.1; have := ha.2; have := hb.1; have := hb.2
  rw [w64_id (by omega) (by omega), tmod32 (by omega)]
theorem sum4 {a b c d : Int} (ha : Wd a) (hb : Wd b) (hc : Wd c) (hd : Wd d) : Int.tmod (w64 (w64 (w64 (d + c) + b) + a)) 4294967296 = IntKind.u32.wrap (IntKind.u32.wrap (IntKind.u32.wrap (a + b) + c) + d) := by
  have := ha.1; have := ha.2; have := hb.1; have := hb.2; have := hc.1; have := hc.2; have := hd.1; have := hd.2
  rw [w64_id (n := d + c) (by omega) (by omega), w64_id (n := d + c + b) (by omega) (by omega), w64_id (by omega) (by omega), tmod32 (by omega), wrap_u32, wrap_u32, wrap_u32, wrap_u32]
  omega
theorem sum5 {a b c d e : Int} (ha : Wd a) (hb : Wd b) (hc : Wd c) (hd : Wd d) (he : Wd e) : Int.tmod (w64 (w64 (w64 (w64 (a + b) + c) + d) + e)) 4294967296 = IntKind.u32.wrap (IntKind.u32.wrap (IntKind.u32.wrap (IntKind.u32.wrap (a + b) + c) + d) + e) := by
  have := ha.1; have := ha.2; have := hb.1; have := hb.2; have := hc.1; have := hc.2; have := hd.1; have := hd.2; have := he.1; have := he.2
  rw [w64_id (n := a + b) (by omega) (by omega), w64_id (n := a + b + c) (by omega) (by omega), w64_id (n := a + b + c + d) (by omega) (by omega), w64_id (by omega) (by omega), tmod32 (by omega), wrap_u32, wrap_u32, wrap_u32, wrap_u32, wrap_u32]
  omega
theorem at_take {l : List Int} {n : Nat} {j : Int} (h0 : 0 ≤ j) (h : j < (n : Int)) : at_ (l.take n) j = at_ l j := by
  unfold at_; rw [List.getD_eq_getElem?_getD, List.getD_eq_getElem?_getD, List.getElem?_take, if_pos (by omega)]
theorem at_set {l : List Int} {n : Nat} {v : Int} {j : Int} (h0 : 0 ≤ j) (hn : n < l.length) : at_ (l.set n v) j = if j = (n : Int) then v else at_ l j := by
  unfold at_
  rw [List.getD_eq_getElem?_getD, List.getD_eq_getElem?_getD, List.getElem?_set]
  by_cases h : j = (n : Int)
  · rw [if_pos h, if_pos (by omega), if_pos hn]; rfl
  · rw [if_neg h, if_neg (by omega)]
theorem take_set {l : List Int} {n : Nat} {v : Int} (h : n < l.length) : (l.set n v).take (n + 1) = l.take n ++ [v] := by
  apply List.ext_getElem?
  intro j
  rw [List.getElem?_take, List.getElem?_append, List.getElem?_set, List.length_take, Nat.min_eq_left (by omega), List.getElem?_take]
  by_cases h1 : j < n
  · rw [if_pos (by omega), if_neg (by omega), if_pos h1, if_pos h1]
  · by_cases h2 : j = n
    · subst h2; rw [if_pos (by omega), if_pos rfl, if_pos h, if_neg (by omega)]; simp
    · rw [if_neg (by omega), if_neg h1, List.getElem?_eq_none (by simp; omega)]
theorem app_okU {l m : List Int} (h : l.length + m.length ≤ 1099511627776) : app l m = some (l ++ m) := by unfold app; rw [if_pos (by unfold Lim; exact h)]
theorem mem_at {l : List Int} {y : Int} (h : y ∈ l) : ∃ j : Int, 0 ≤ j ∧ j < (l.length : Int) ∧ at_ l j = y := by
  obtain ⟨n, hn, rfl⟩ := List.getElem_of_mem h
  refine ⟨(n : Int), by omega, by omega, ?_⟩
  unfold at_; rw [List.getD_eq_getElem?_getD, Int.toNat_natCast, List.getElem?_eq_getElem hn]; rfl
theorem sched_lock {p : List Int} (hp : p.length = 64) (wp : ∀ y ∈ p, Wf .u8 y) : ∀ (k : Nat) (i : Int) (w : List Int), 0 ≤ i → i ≤ 64 → 64 - i < (k : Int) → w.length = 64 → (∀ j : Int, 0 ≤ j → j < i → Wd (at_ w j)) →
    ∃ w', hash_words.l1.m KK p k i w = some w' ∧ shutterref01_Block.l1.m KK p k (w.take i.toNat) i = some w' ∧ w'.length = 64 ∧ ∀ y ∈ w', Wd y := by
  intro k
  induction k with
  | zero => intro i w h0 h1 h2; omega
  | succ k ih =>
    intro i w h0 h1 h2 hw ww
    rw [hash_words.l1.m, shutterref01_Block.l1.m]
    simp only [letJ]
    by_cases h3 : i < 64
    · have hl : (w.take i.toNat).length = i.toNat := by rw [List.length_take]; omega
      have hset : ∀ v, (w.set i.toNat v).length = 64 := fun v => by rw [List.length_set]; exact hw
      have next : ∀ v, Wd v → ∃ w', hash_words.l1.m KK p k (i + 1) (w.set i.toNat v) = some w' ∧ shutterref01_Block.l1.m KK p k (w.take i.toNat ++ [v]) (i + 1) = some w' ∧ w'.length = 64 ∧ ∀ y ∈ w', Wd y := by
        intro v hv
        have := ih (i + 1) (w.set i.toNat v) (by omega) (by omega) (by omega) (hset v) (fun j j0 j1 => by
          rw [at_set j0 (by omega)]
          split
          · exact hv
          · exact ww j j0 (by omega))
        rw [show (i + 1).toNat = i.toNat + 1 by omega, take_set (by omega)] at this
        exact this
      have e1 : w64 (i + 1) = i + 1 := w64_id (by omega) (by omega)
      rw [if_pos h3, if_pos h3, e1]
      by_cases h4 : i < 16
      · have q0 : w64 (4 * i) = 4 * i := w64_id (by omega) (by omega)
        have q1 : w64 (4 * i + 1) = 4 * i + 1 := w64_id (by omega) (by omega)
        have q2 : w64 (4 * i + 2) = 4 * i + 2 := w64_id (by omega) (by omega)
        have q3 : w64 (4 * i + 3) = 4 * i + 3 := w64_id (by omega) (by omega)
        rw [if_pos h4, if_pos h4]
        simp only [q0, q1, q2, q3, cond_true]
        have b0 := b_u8 (wp _ (at_mem (l := p) (i := 4 * i) (by omega) (by omega)))
        have b1 := b_u8 (wp _ (at_mem (l := p) (i := 4 * i + 1) (by omega) (by omega)))
        have b2 := b_u8 (wp _ (at_mem (l := p) (i := 4 * i + 2) (by omega) (by omega)))
        have b3 := b_u8 (wp _ (at_mem (l := p) (i := 4 * i + 3) (by omega) (by omega)))
        rw [if_pos (by omega), if_pos (by omega), if_pos (by omega), if_pos (by omega), if_pos (by omega), if_pos (by omega), if_pos (by omega), if_pos (by omega), if_pos h0, if_pos h3,
          if_pos (by omega), if_pos (by omega), if_pos (by omega), if_pos (by omega), if_pos (by omega), if_pos (by omega), if_pos (by omega), if_pos (by omega),
          word_ref b0 b1 b2 b3, (word_prog b0 b1 b2 b3).1, app_okU (by rw [hl]; simp; omega), Option.bind_some]
        exact next _ (word_prog b0 b1 b2 b3).2
      · have q15 : w64 (i - 15) = i - 15 := w64_id (by omega) (by omega)
        have q2 : w64 (i - 2) = i - 2 := w64_id (by omega) (by omega)
        have q7 : w64 (i - 7) = i - 7 := w64_id (by omega) (by omega)
        have q16 : w64 (i - 16) = i - 16 := w64_id (by omega) (by omega)
        have t15 : at_ (w.take i.toNat) (i - 15) = at_ w (i - 15) := at_take (by omega) (by omega)
        have t2 : at_ (w.take i.toNat) (i - 2) = at_ w (i - 2) := at_take (by omega) (by omega)
        have t7 : at_ (w.take i.toNat) (i - 7) = at_ w (i - 7) := at_take (by omega) (by omega)
        have t16 : at_ (w.take i.toNat) (i - 16) = at_ w (i - 16) := at_take (by omega) (by omega)
        have w15 := ww (i - 15) (by omega) (by omega)
        have w2 := ww (i - 2) (by omega) (by omega)
        have w7 := ww (i - 7) (by omega) (by omega)
        have w16 := ww (i - 16) (by omega) (by omega)
        rw [if_neg h4, if_neg h4]
        simp only [q15, q2, q7, q16, t15, t2, t7, t16, cond_false, cond_true]
        generalize at_ w (i - 15) = x15 at *
        generalize at_ w (i - 2) = x2 at *
        generalize at_ w (i - 7) = x7 at *
        generalize at_ w (i - 16) = x16 at *
        have r7 := refturn_eq w15 (n := 7) (by omega) (by omega)
        have r18 := refturn_eq w15 (n := 18) (by omega) (by omega)
        have r17 := refturn_eq w2 (n := 17) (by omega) (by omega)
        have r19 := refturn_eq w2 (n := 19) (by omega) (by omega)
        have d7 := (rot_same w15 (n := 7) (by omega) (by omega)).2
        have d18 := (rot_same w15 (n := 18) (by omega) (by omega)).2
        have d17 := (rot_same w2 (n := 17) (by omega) (by omega)).2
        have d19 := (rot_same w2 (n := 19) (by omega) (by omega)).2
        have s3 : shr .i64 x15 3 = shr .u32 x15 3 ∧ Wd (shr .u32 x15 3) := by
          obtain ⟨x, rfl, hx⟩ := w15.nat
          have a1 : shr .i64 (x : Int) 3 = ((x / 2 ^ 3 : Nat) : Int) := shr_nat (n := 3) (by omega) (by decide)
          have a2 : shr .u32 (x : Int) 3 = ((x / 2 ^ 3 : Nat) : Int) := shr_nat (n := 3) (by omega) (by decide)
          rw [a1, a2]; exact ⟨rfl, wd_nat (by omega)⟩
        have s10 : shr .i64 x2 10 = shr .u32 x2 10 ∧ Wd (shr .u32 x2 10) := by
          obtain ⟨x, rfl, hx⟩ := w2.nat
          have a1 : shr .i64 (x : Int) 10 = ((x / 2 ^ 10 : Nat) : Int) := shr_nat (n := 10) (by omega) (by decide)
          have a2 : shr .u32 (x : Int) 10 = ((x / 2 ^ 10 : Nat) : Int) := shr_nat (n := 10) (by omega) (by decide)
          rw [a1, a2]; exact ⟨rfl, wd_nat (by omega)⟩
        have x1 := xor_same d7 d18
        have x1' := xor_same x1.2 s3.2
        have x2' := xor_same d17 d19
        have x3 := xor_same x2'.2 s10.2
        rw [if_pos (by omega), if_pos (by omega), if_pos (by omega), if_pos (by omega), turn_eq (by omega) (by omega), turn_eq (by omega) (by omega), turn_eq (by omega) (by omega), turn_eq (by omega) (by omega)]
        simp only [Option.bind_some]
        rw [if_pos (by omega), if_pos (by omega), if_pos (by omega), if_pos (by omega), if_pos h0, if_pos h3, if_pos (by omega), if_pos (by omega), if_pos (by omega), if_pos (by omega)]
        erw [r7, r18, r17, r19]
        simp only [Option.bind_some]
        rw [if_pos (by omega), if_pos (by omega), if_pos (by omega), if_pos (by omega), if_pos (by omega), s3.1, s10.1]
        rw [show bXor .i64 (rot x2 ((17 : Nat) : Int)) (rot x2 ((19 : Nat) : Int)) = bXor .u32 (rot x2 17) (rot x2 19) from x2'.1, show bXor .i64 (rot x15 ((7 : Nat) : Int)) (rot x15 ((18 : Nat) : Int)) = bXor .u32 (rot x15 7) (rot x15 18) from x1.1]
        erw [x3.1, x1'.1]
        erw [sum4 (a := x16) w16 x1'.2 w7 x3.2]
        rw [app_okU (by rw [hl]; simp; omega), Option.bind_some]
        exact next _ (wd_wrap _)
    · have : i = 64 := by omega
      subst this
      rw [if_neg h3, if_neg h3, cond_false]
      refine ⟨w, rfl, ?_, hw, fun y hy => ?_⟩
      · rw [if_neg (by omega), List.take_of_length_le (by rw [hw]; decide)]
      · obtain ⟨j, j0, j1, rfl⟩ := mem_at hy
        exact ww j j0 (by omega)
theorem list8 {s : List Int} (h : s.length = 8) : ∃ a b c d e f g i, s = [a, b, c, d, e, f, g, i] := by
  match s, h with
  | [a, b, c, d, e, f, g, i], _ => exact ⟨a, b, c, d, e, f, g, i, rfl⟩
theorem rounds_lock {w : List Int} (hw : w.length = 64) (ww : ∀ y ∈ w, Wd y) : ∀ (k : Nat) (i : Int) (s : List Int), 0 ≤ i → i ≤ 64 → 64 - i < (k : Int) → s.length = 8 → (∀ y ∈ s, Wd y) →
    ∃ s', hash_Sum_block.l1.m KK w k i s = some s' ∧ shutterref01_Block.l2.m KK w k i s = some s' ∧ s'.length = 8 ∧ ∀ y ∈ s', Wd y := by
  intro k
  induction k with
  | zero => intro i s h0 h1 h2; omega
  | succ k ih =>
    intro i s h0 h1 h2 hs ws
    rw [hash_Sum_block.l1.m, shutterref01_Block.l2.m]
    simp only [letJ]
    by_cases h3 : i < 64
    · obtain ⟨a, b, c, d, e, f, g, q, rfl⟩ := list8 hs
      simp only [List.mem_cons, List.not_mem_nil, or_false, forall_eq_or_imp, forall_eq] at ws
      obtain ⟨wa, wb, wc, wd, we, wf, wg, wq⟩ := ws
      have a0 : at_ [a, b, c, d, e, f, g, q] 0 = a := rfl
      have a1 : at_ [a, b, c, d, e, f, g, q] 1 = b := rfl
      have a2 : at_ [a, b, c, d, e, f, g, q] 2 = c := rfl
      have a3 : at_ [a, b, c, d, e, f, g, q] 3 = d := rfl
      have a4 : at_ [a, b, c, d, e, f, g, q] 4 = e := rfl
      have a5 : at_ [a, b, c, d, e, f, g, q] 5 = f := rfl
      have a6 : at_ [a, b, c, d, e, f, g, q] 6 = g := rfl
      have a7 : at_ [a, b, c, d, e, f, g, q] 7 = q := rfl
      have e1 : w64 (i + 1) = i + 1 := w64_id (by omega) (by omega)
      obtain ⟨k1, k2, k3⟩ := kt_eq h0 h3
      have wi := ww _ (at_mem (l := w) h0 (by omega))
      have d6 : Wd (rot e 6) := (rot_same we (n := 6) (by omega) (by omega)).2
      have d11 : Wd (rot e 11) := (rot_same we (n := 11) (by omega) (by omega)).2
      have d25 : Wd (rot e 25) := (rot_same we (n := 25) (by omega) (by omega)).2
      have d2 : Wd (rot a 2) := (rot_same wa (n := 2) (by omega) (by omega)).2
      have d13 : Wd (rot a 13) := (rot_same wa (n := 13) (by omega) (by omega)).2
      have d22 : Wd (rot a 22) := (rot_same wa (n := 22) (by omega) (by omega)).2
      have r6 : shutterref01_turn.m e 6 = some (rot e 6) := refturn_eq we (n := 6) (by omega) (by omega)
      have r11 : shutterref01_turn.m e 11 = some (rot e 11) := refturn_eq we (n := 11) (by omega) (by omega)
      have r25 : shutterref01_turn.m e 25 = some (rot e 25) := refturn_eq we (n := 25) (by omega) (by omega)
      have r2 : shutterref01_turn.m a 2 = some (rot a 2) := refturn_eq wa (n := 2) (by omega) (by omega)
      have r13 : shutterref01_turn.m a 13 = some (rot a 13) := refturn_eq wa (n := 13) (by omega) (by omega)
      have r22 : shutterref01_turn.m a 22 = some (rot a 22) := refturn_eq wa (n := 22) (by omega) (by omega)
      have x1 := xor_same d6 d11
      have x2 := xor_same x1.2 d25
      have x3 := xor_same d2 d13
      have x4 := xor_same x3.2 d22
      have n1 := not_same we
      have c1 := and_same we wf
      have c2 := and_same n1.2 wg
      have c3 := xor_same c1.2 c2.2
      have m1 := and_same wa wb
      have m2 := and_same wa wc
      have m3 := and_same wb wc
      have m4 := xor_same m1.2 m2.2
      have m5 := xor_same m4.2 m3.2
      rw [if_pos h3, if_pos h3]
      simp only [a0, a1, a2, a3, a4, a5, a6, a7, e1, cond_true, n1.1]
      rw [if_pos h0, if_pos h3, both_eq we wf, both_eq n1.2 wg, both_eq wa wb, both_eq wa wc, both_eq wb wc, k1, k2]
      rw [turn_eq (x := e) (n := 6) (by omega) (by omega), turn_eq (x := e) (n := 11) (by omega) (by omega), turn_eq (x := e) (n := 25) (by omega) (by omega), turn_eq (x := a) (n := 2) (by omega) (by omega), turn_eq (x := a) (n := 13) (by omega) (by omega), turn_eq (x := a) (n := 22) (by omega) (by omega)]
      rw [r6, r11, r25, r2, r13, r22]
      simp only [Option.bind_some]
      rw [if_pos h0, if_pos (by omega)]
      generalize at_ w i = wt at *
      generalize kt i = ki at *
      have T1 := sum5 wq x2.2 c3.2 k3 wi
      have T2 := sum2 x4.2 m5.2
      have T3 := sum2 (wd_wrap (IntKind.u32.wrap (IntKind.u32.wrap (IntKind.u32.wrap (q + bXor .u32 (bXor .u32 (rot e 6) (rot e 11)) (rot e 25)) + bXor .u32 (bAnd .u32 e f) (bAnd .u32 (bXor .u32 4294967295 e) g)) + ki) + wt)) (wd_wrap (bXor .u32 (bXor .u32 (rot a 2) (rot a 13)) (rot a 22) + bXor .u32 (bXor .u32 (bAnd .u32 a b) (bAnd .u32 a c)) (bAnd .u32 b c)))
      have T4 := sum2 wd (wd_wrap (IntKind.u32.wrap (IntKind.u32.wrap (IntKind.u32.wrap (q + bXor .u32 (bXor .u32 (rot e 6) (rot e 11)) (rot e 25)) + bXor .u32 (bAnd .u32 e f) (bAnd .u32 (bXor .u32 4294967295 e) g)) + ki) + wt))
      rw [x1.1, x2.1, x3.1, x4.1, c3.1, m4.1, m5.1, T1, T2, T3, T4]
      refine ih (i + 1) _ (by omega) (by omega) (by omega) rfl ?_
      simp only [List.mem_cons, List.not_mem_nil, or_false, forall_eq_or_imp, forall_eq]
      exact ⟨wd_wrap _, wa, wb, wc, wd_wrap _, we, wf, wg⟩
    · have : i = 64 := by omega
      subst this
      rw [if_neg h3, if_neg h3, cond_false]
      exact ⟨s, rfl, by rw [if_neg (by omega)], hs, ws⟩
end Go.Proofs.YtjkbhpokboolpaaGreatDoor.Sx

namespace Go.Proofs.YtjkbhpokboolpaaGreatDoor.Sx
open Go
set_option maxRecDepth 100000
theorem add_prog (k : Nat) (h0 h1 h2 h3 h4 h5 h6 h7 s0 s1 s2 s3 s4 s5 s6 s7 : Int) : hash_Sum_block.l2.m KK [s0, s1, s2, s3, s4, s5, s6, s7] (k + 9) 0 h0 h1 h2 h3 h4 h5 h6 h7 =
    some (IntKind.u32.wrap (h0 + s0), IntKind.u32.wrap (h1 + s1), IntKind.u32.wrap (h2 + s2), IntKind.u32.wrap (h3 + s3), IntKind.u32.wrap (h4 + s4), IntKind.u32.wrap (h5 + s5), IntKind.u32.wrap (h6 + s6), IntKind.u32.wrap (h7 + s7)) := by kernel_rfl
theorem add_ref (k : Nat) (h0 h1 h2 h3 h4 h5 h6 h7 s0 s1 s2 s3 s4 s5 s6 s7 : Int) : shutterref01_Block.l3.m KK [h0, h1, h2, h3, h4, h5, h6, h7] (k + 9) 0 [s0, s1, s2, s3, s4, s5, s6, s7] =
    some [Int.tmod (w64 (s0 + h0)) 4294967296, Int.tmod (w64 (s1 + h1)) 4294967296, Int.tmod (w64 (s2 + h2)) 4294967296, Int.tmod (w64 (s3 + h3)) 4294967296, Int.tmod (w64 (s4 + h4)) 4294967296, Int.tmod (w64 (s5 + h5)) 4294967296, Int.tmod (w64 (s6 + h6)) 4294967296, Int.tmod (w64 (s7 + h7)) 4294967296] := by kernel_rfl
theorem block_lock {h p : List Int} (hh : h.length = 8) (wh : ∀ y ∈ h, Wd y) (hp : p.length = 64) (wp : ∀ y ∈ p, Wf .u8 y) :
    ∃ c, shutterref01_Block.m KK h p = some c ∧ (∀ rest n, hash_Sum_block.m KK ⟨h, rest, n⟩ p = some ⟨c, rest, n⟩) ∧ c.length = 8 ∧ ∀ y ∈ c, Wd y := by
  obtain ⟨w, e1, e2, hw, ww⟩ := sched_lock hp wp KK 0 (List.replicate 64 0) (by omega) (by omega) (by unfold KK; omega) (List.length_replicate ..) (fun j h0 h1 => by omega)
  obtain ⟨s, f1, f2, hs, ws⟩ := rounds_lock hw ww KK 0 h (by omega) (by omega) (by unfold KK; omega) hh wh
  obtain ⟨h0, h1, h2, h3, h4, h5, h6, h7, rfl⟩ := list8 hh
  obtain ⟨s0, s1, s2, s3, s4, s5, s6, s7, rfl⟩ := list8 hs
  simp only [List.mem_cons, List.not_mem_nil, or_false, forall_eq_or_imp, forall_eq] at wh ws
  obtain ⟨a0, a1, a2, a3, a4, a5, a6, a7⟩ := wh
  obtain ⟨b0, b1, b2, b3, b4, b5, b6, b7⟩ := ws
  have e2' : shutterref01_Block.l1.m KK p KK [] 0 = some w := e2
  refine ⟨[IntKind.u32.wrap (h0 + s0), IntKind.u32.wrap (h1 + s1), IntKind.u32.wrap (h2 + s2), IntKind.u32.wrap (h3 + s3), IntKind.u32.wrap (h4 + s4), IntKind.u32.wrap (h5 + s5), IntKind.u32.wrap (h6 + s6), IntKind.u32.wrap (h7 + s7)], ?_, fun rest n => ?_, rfl, ?_⟩
  · unfold shutterref01_Block.m
    rw [e2', Option.bind_some, f2, Option.bind_some]
    have := add_ref 1048567 h0 h1 h2 h3 h4 h5 h6 h7 s0 s1 s2 s3 s4 s5 s6 s7
    rw [show 1048567 + 9 = KK from rfl] at this
    rw [this, Option.bind_some, sum2 b0 a0, sum2 b1 a1, sum2 b2 a2, sum2 b3 a3, sum2 b4 a4, sum2 b5 a5, sum2 b6 a6, sum2 b7 a7, Int.add_comm s0, Int.add_comm s1, Int.add_comm s2, Int.add_comm s3, Int.add_comm s4, Int.add_comm s5, Int.add_comm s6, Int.add_comm s7]
  · unfold hash_Sum_block.m hash_words.m
    rw [e1, Option.bind_some, Option.bind_some, f1, Option.bind_some]
    have := add_prog 1048567 h0 h1 h2 h3 h4 h5 h6 h7 s0 s1 s2 s3 s4 s5 s6 s7
    rw [show 1048567 + 9 = KK from rfl] at this
    have t : hash_Sum_block.l2.m KK [s0, s1, s2, s3, s4, s5, s6, s7] KK 0 (at_ [h0, h1, h2, h3, h4, h5, h6, h7] 0) (at_ [h0, h1, h2, h3, h4, h5, h6, h7] 1) (at_ [h0, h1, h2, h3, h4, h5, h6, h7] 2) (at_ [h0, h1, h2, h3, h4, h5, h6, h7] 3) (at_ [h0, h1, h2, h3, h4, h5, h6, h7] 4) (at_ [h0, h1, h2, h3, h4, h5, h6, h7] 5) (at_ [h0, h1, h2, h3, h4, h5, h6, h7] 6) (at_ [h0, h1, h2, h3, h4, h5, h6, h7] 7) = _ := this
    rw [t, Option.bind_some]
  · simp only [List.mem_cons, List.not_mem_nil, or_false, forall_eq_or_imp, forall_eq]
    exact ⟨wd_wrap _, wd_wrap _, wd_wrap _, wd_wrap _, wd_wrap _, wd_wrap _, wd_wrap _, wd_wrap _⟩
def cmp (h p : List Int) : List Int := (shutterref01_Block.m KK h p).getD []
structure St8 (h : List Int) : Prop where
  len : h.length = 8
  wd : ∀ y ∈ h, Wd y
theorem cmp_eq {h p : List Int} (k : St8 h) (hp : p.length = 64) (wp : ∀ y ∈ p, Wf .u8 y) : shutterref01_Block.m KK h p = some (cmp h p) ∧ (∀ rest n, hash_Sum_block.m KK ⟨h, rest, n⟩ p = some ⟨cmp h p, rest, n⟩) ∧ St8 (cmp h p) := by
  obtain ⟨c, e1, e2, e3, e4⟩ := block_lock k.len k.wd hp wp
  unfold cmp
  rw [e1]
  exact ⟨rfl, e2, e3, e4⟩
def foldB : Nat → List Int → List Int → List Int × List Int
  | 0, h, l => (h, l)
  | k + 1, h, l => if 64 ≤ l.length then foldB k (cmp h (l.take 64)) (l.drop 64) else (h, l)
theorem foldB_fuel : ∀ (k m : Nat) (h l : List Int), l.length < 64 * k + 64 → k ≤ m → foldB m h l = foldB k h l := by
  intro k
  induction k with
  | zero =>
    intro m h l hl _
    cases m with
    | zero => rfl
    | succ m => unfold foldB; rw [if_neg (by omega)]
  | succ k ih =>
    intro m h l hl hm
    obtain ⟨m, rfl⟩ : ∃ m', m = m' + 1 := ⟨m - 1, by omega⟩
    unfold foldB
    split
    · exact ih m _ _ (by rw [List.length_drop]; omega) (by omega)
    · rfl
def FB (h l : List Int) : List Int × List Int := foldB l.length h l
theorem FB_eq (h l : List Int) : FB h l = if 64 ≤ l.length then FB (cmp h (l.take 64)) (l.drop 64) else (h, l) := by
  unfold FB
  cases hl : l.length with
  | zero => unfold foldB; rw [if_neg (by omega)]
  | succ n =>
    conv => lhs; unfold foldB
    rw [hl]
    split
    · rw [foldB_fuel (l.drop 64).length n _ _ (by omega) (by rw [List.length_drop]; omega)]
    · rfl
theorem FB_app : ∀ (n : Nat) (h a b : List Int), a.length ≤ n → FB h (a ++ b) = FB (FB h a).1 ((FB h a).2 ++ b) := by
  intro n
  induction n with
  | zero =>
    intro h a b ha
    have : a = [] := List.eq_nil_of_length_eq_zero (by omega)
    subst this
    rw [FB_eq h []]; rfl
  | succ n ih =>
    intro h a b ha
    by_cases h64 : 64 ≤ a.length
    · rw [FB_eq h a, if_pos h64, FB_eq h (a ++ b), if_pos (by rw [List.length_append]; omega), List.take_append_of_le_length h64, List.drop_append_of_le_length h64]
      exact ih _ _ _ (by rw [List.length_drop]; omega)
    · rw [FB_eq h a, if_neg h64]
theorem FB_st : ∀ (n : Nat) (h a : List Int), a.length ≤ n → St8 h → (∀ y ∈ a, Wf .u8 y) → St8 (FB h a).1 ∧ (∀ y ∈ (FB h a).2, Wf .u8 y) ∧ (FB h a).2.length = a.length % 64 := by
  intro n
  induction n with
  | zero =>
    intro h a ha k wa
    have : a = [] := List.eq_nil_of_length_eq_zero (by omega)
    subst this
    rw [FB_eq h []]; exact ⟨k, wa, rfl⟩
  | succ n ih =>
    intro h a ha k wa
    by_cases h64 : 64 ≤ a.length
    · rw [FB_eq h a, if_pos h64]
      have := ih (cmp h (a.take 64)) (a.drop 64) (by rw [List.length_drop]; omega) (cmp_eq k (by rw [List.length_take]; omega) (fun y hy => wa y (List.mem_of_mem_take hy))).2.2 (fun y hy => wa y (List.mem_of_mem_drop hy))
      refine ⟨this.1, this.2.1, ?_⟩
      rw [this.2.2, List.length_drop]; omega
    · rw [FB_eq h a, if_neg h64]
      exact ⟨k, wa, by simp only; omega⟩
theorem sub_takeW {l : List Int} {n : Nat} (h : n ≤ l.length) : sub l 0 (n : Int) = l.take n := by
  unfold sub; simp
theorem sub_drop {l : List Int} {n : Nat} (h : n ≤ l.length) : sub l (n : Int) (l.length : Int) = l.drop n := by
  unfold sub; simp only [Int.toNat_natCast]
  rw [List.take_of_length_le (by rw [List.length_drop]; exact Nat.le_refl _)]
theorem at8 {h : List Int} (k : h.length = 8) : [at_ h 0, at_ h 1, at_ h 2, at_ h 3, at_ h 4, at_ h 5, at_ h 6, at_ h 7] = h := by
  obtain ⟨a, b, c, d, e, f, g, i, rfl⟩ := list8 k; rfl
def T10 (h r : List Int) (n : Int) : Int × Int × Int × Int × Int × Int × Int × Int × List Int × Int := (at_ h 0, at_ h 1, at_ h 2, at_ h 3, at_ h 4, at_ h 5, at_ h 6, at_ h 7, r, n)
theorem addl2 : ∀ (k : Nat) (h r : List Int) (n : Int), r.length < k → r.length ≤ 1000000 → St8 h → (∀ y ∈ r, Wf .u8 y) →
    hash_Sum_Add.l2.m KK k (at_ h 0) (at_ h 1) (at_ h 2) (at_ h 3) (at_ h 4) (at_ h 5) (at_ h 6) (at_ h 7) r n = some (T10 (FB h r).1 (FB h r).2 n) := by
  intro k
  induction k with
  | zero => intro h r n hr; omega
  | succ k ih =>
    intro h r n hr hr2 kh wr
    rw [hash_Sum_Add.l2.m, at8 kh.len, FB_eq h r]
    by_cases h64 : 64 ≤ r.length
    · have e1 : sub r 0 64 = r.take 64 := sub_takeW (n := 64) h64
      have e2 : sub r 64 (r.length : Int) = r.drop 64 := sub_drop (n := 64) h64
      obtain ⟨_, c2, c3⟩ := cmp_eq kh (p := r.take 64) (by rw [List.length_take]; omega) (fun y hy => wr y (List.mem_of_mem_take hy))
      rw [if_pos (by omega), if_pos (by omega), e1, e2, c2, Option.bind_some, if_pos h64]
      exact ih _ _ _ (by rw [List.length_drop]; omega) (by rw [List.length_drop]; omega) c3 (fun y hy => wr y (List.mem_of_mem_drop hy))
    · rw [if_neg (by omega), if_neg h64]; rfl
end Go.Proofs.YtjkbhpokboolpaaGreatDoor.Sx

namespace Go.Proofs.YtjkbhpokboolpaaGreatDoor.Sx
open Go
set_option maxRecDepth 100000
theorem dropA {α : Type} [Inhabited α] {l : List α} {i : Int} (h0 : 0 ≤ i) (h1 : i < (l.length : Int)) : l.drop i.toNat = at_ l i :: l.drop (i + 1).toNat := by
  have hlt : i.toNat < l.length := by omega
  rw [List.drop_eq_getElem_cons hlt]
  have e : (i + 1).toNat = i.toNat + 1 := by omega
  rw [e]
  congr 1
  unfold at_; rw [List.getD_eq_getElem?_getD, List.getElem?_eq_getElem hlt]; rfl
theorem addl1 {ps : List (List Int)} : ∀ (k : Nat) (i : Int) (h r : List Int) (n : Int), 0 ≤ i → i ≤ (ps.length : Int) → (ps.length : Int) - i < (k : Int) → ps.length ≤ 1000000 → r.length + (ps.drop i.toNat).flatten.length ≤ 1000000 → 0 ≤ n → n + ((ps.drop i.toNat).flatten.length : Int) ≤ 1000000 → St8 h → (∀ y ∈ r, Wf .u8 y) → (∀ y ∈ (ps.drop i.toNat).flatten, Wf .u8 y) →
    hash_Sum_Add.l1.m KK ps k i (at_ h 0) (at_ h 1) (at_ h 2) (at_ h 3) (at_ h 4) (at_ h 5) (at_ h 6) (at_ h 7) r n =
      some (T10 (FB h (r ++ (ps.drop i.toNat).flatten)).1 (FB h (r ++ (ps.drop i.toNat).flatten)).2 (n + ((ps.drop i.toNat).flatten.length : Int))) ∨ r.length ≥ 64 := by
  intro k
  induction k with
  | zero => intro i h r n h0 h1 h2; omega
  | succ k ih =>
    intro i h r n h0 h1 h2 hps hb hn hn2 kh wr wp
    by_cases hr64 : r.length ≥ 64
    · exact .inr hr64
    refine .inl ?_
    rw [hash_Sum_Add.l1.m]
    simp only [letJ]
    by_cases h3 : i < (ps.length : Int)
    · have hd := dropA h0 h3
      rw [hd, List.flatten_cons, List.length_append] at hb hn2
      rw [hd, List.flatten_cons] at wp ⊢
      have w1 : ∀ y ∈ r ++ at_ ps i, Wf .u8 y := fun y hy => (List.mem_append.1 hy).elim (wr y) (fun z => wp y (List.mem_append_left _ z))
      have hl : (r ++ at_ ps i).length = r.length + (at_ ps i).length := List.length_append
      have hf := FB_st _ h (r ++ at_ ps i) (Nat.le_refl _) kh w1
      rw [if_pos h3, cond_true, if_pos h0, if_pos h3, app_okU (by omega), Option.bind_some, addl2 KK h _ _ (by unfold KK; omega) (by omega) kh w1, Option.bind_some]
      have e1 : IntKind.u64.wrap (n + IntKind.u64.wrap ((at_ ps i).length : Int)) = n + ((at_ ps i).length : Int) := by rw [wrap_u64, wrap_u64]; omega
      rw [w64_id (n := i + 1) (by omega) (by omega), e1]
      have := ih (i + 1) (FB h (r ++ at_ ps i)).1 (FB h (r ++ at_ ps i)).2 (n + ((at_ ps i).length : Int)) (by omega) (by omega) (by omega) hps (by rw [hf.2.2]; omega) (by omega) (by omega) hf.1 hf.2.1 (fun y hy => wp y (List.mem_append_right _ hy))
      rcases this with e | e
      · unfold T10 at e ⊢
        simp only at e ⊢
        rw [e, ← FB_app _ h (r ++ at_ ps i) _ (Nat.le_refl _), List.append_assoc, List.length_append]
        congr 2
        simp only [Prod.mk.injEq, true_and]
        omega
      · rw [hf.2.2] at e; omega
    · have : i = (ps.length : Int) := by omega
      subst this
      rw [if_neg h3, cond_false, Int.toNat_natCast, List.drop_length]
      simp only [List.flatten_nil, List.append_nil, List.length_nil]
      rw [FB_eq, if_neg (by omega)]
      unfold T10; simp
theorem add_eq {h r : List Int} {n : Int} {ps : List (List Int)} (hps : ps.length ≤ 1000000) (hr : r.length < 64) (hb : ps.flatten.length ≤ 900000) (hn : 0 ≤ n) (hn2 : n ≤ 100000) (kh : St8 h) (wr : ∀ y ∈ r, Wf .u8 y) (wp : ∀ y ∈ ps.flatten, Wf .u8 y) :
    hash_Sum_Add.m KK ⟨h, r, n⟩ ps = some ⟨(FB h (r ++ ps.flatten)).1, (FB h (r ++ ps.flatten)).2, n + (ps.flatten.length : Int)⟩ := by
  have hK : (ps.length : Int) - 0 < (KK : Int) := by unfold KK; omega
  have := addl1 (ps := ps) KK 0 h r n (by omega) (by omega) hK hps (by simp only [Int.toNat_zero, List.drop_zero]; omega) hn (by simp only [Int.toNat_zero, List.drop_zero]; omega) kh wr (by simpa using wp)
  rcases this with e | e
  · unfold hash_Sum_Add.m
    simp only [Int.toNat_zero, List.drop_zero] at e
    rw [e, Option.bind_some]
    unfold T10
    simp only
    have k2 := (FB_st _ h (r ++ ps.flatten) (Nat.le_refl _) kh (fun y hy => (List.mem_append.1 hy).elim (wr y) (wp y))).1
    rw [at8 k2.len]
  · omega
def H0 : List Int := [1779033703, 3144134277, 1013904242, 2773480762, 1359893119, 2600822924, 528734635, 1541459225]
theorem new_eqH : hash_New.m KK = some ⟨H0, [], 0⟩ := by kernel_rfl
theorem init_eq : shutterref01_Of.l1.m KK KK 0 (List.replicate 8 (0 : Int)) = some H0 := by kernel_rfl
theorem st_H0 : St8 H0 := ⟨rfl, by unfold H0 Wd; simp only [List.mem_cons, List.not_mem_nil, or_false, forall_eq_or_imp, forall_eq]; omega⟩
def lb (n i : Int) : Int := IntKind.u8.wrap (shr .u64 (8 * n) (56 - 8 * i))
def lbs (n : Int) : Nat → Int → List Int
  | 0, _ => []
  | m + 1, i => lb n i :: lbs n m (i + 1)
theorem lbs_len (n : Int) : ∀ m i, (lbs n m i).length = m
  | 0, _ => rfl
  | m + 1, i => by unfold lbs; rw [List.length_cons, lbs_len n m]
theorem wf_wrap8 (n : Int) : Wf .u8 (IntKind.u8.wrap n) := by
  rw [wrap_u8]
  have h0 : 0 ≤ n % 256 := by omega
  have h1 : n % 256 < 256 := by omega
  generalize n % 256 = m at *
  obtain ⟨m, rfl⟩ := Int.eq_ofNat_of_zero_le h0
  have : m < 256 := by omega
  unfold Wf Lit.wf
  simp [IntKind.min, IntKind.max, IntKind.signed, IntKind.bits]
  omega
theorem lbs_wf (n : Int) : ∀ m i, ∀ y ∈ lbs n m i, Wf .u8 y
  | 0, _, y, h => by cases h
  | m + 1, i, y, h => by
    unfold lbs at h
    rcases List.mem_cons.1 h with rfl | h
    · exact wf_wrap8 _
    · exact lbs_wf n m _ y h
def zs (n : Nat) : Nat := (120 - (n + 1) % 64) % 64
def padL (n : Nat) : List Int := 128 :: (List.replicate (zs n) 0 ++ lbs (n : Int) 8 0)
theorem wf_num {n : Int} (h0 : 0 ≤ n) (h1 : n ≤ 255) : Wf .u8 n := by
  have := wf_wrap8 n
  rwa [wrap_u8, Int.emod_eq_of_lt h0 (by omega)] at this
theorem padL_wf (n : Nat) : ∀ y ∈ padL n, Wf .u8 y := by
  intro y hy
  unfold padL at hy
  rcases List.mem_cons.1 hy with rfl | hy
  · exact wf_num (by omega) (by omega)
  · rcases List.mem_append.1 hy with hy | hy
    · obtain rfl := List.eq_of_mem_replicate hy
      exact wf_num (by omega) (by omega)
    · exact lbs_wf _ _ _ y hy
theorem padL_len (n : Nat) : (n + (padL n).length) % 64 = 0 ∧ (padL n).length ≤ 100 := by
  unfold padL
  rw [List.length_cons, List.length_append, List.length_replicate, lbs_len]
  unfold zs; omega
theorem fuel_mono1 {r : List Int} (hr : r.length < 64) {p : List Int} (hp : p.length ≤ 100) : hash_Sum_End.l1.m KK r KK p = some (p ++ List.replicate ((120 - (r.length + p.length) % 64) % 64) 0) := by
  have go : ∀ (k : Nat) (p : List Int), p.length ≤ 1000 → (120 - (r.length + p.length) % 64) % 64 < k → p.length + (120 - (r.length + p.length) % 64) % 64 ≤ 1000 →
      hash_Sum_End.l1.m KK r k p = some (p ++ List.replicate ((120 - (r.length + p.length) % 64) % 64) 0) := by
    intro k
    induction k with
    | zero => intro p _ h; omega
    | succ k ih =>
      intro p hp h h2
      rw [hash_Sum_End.l1.m, w64_id (by omega) (by omega), Int.tmod_eq_emod_of_nonneg (by omega)]
      by_cases h56 : ((r.length : Int) + (p.length : Int)) % 64 = 56
      · rw [if_pos h56]
        have : (120 - (r.length + p.length) % 64) % 64 = 0 := by omega
        rw [this]; simp
      · have e : (120 - (r.length + p.length) % 64) % 64 = (120 - (r.length + (p ++ [0]).length) % 64) % 64 + 1 := by simp only [List.length_append, List.length_cons, List.length_nil]; omega
        rw [if_neg h56, app_okU (by simp; omega), Option.bind_some, ih (p ++ [0]) (by simp only [List.length_append, List.length_cons, List.length_nil]; omega) (by omega) (by simp only [List.length_append, List.length_cons, List.length_nil] at e ⊢; omega), e, List.replicate_succ, List.append_assoc]; rfl
  exact go KK p (by omega) (by unfold KK; omega) (by omega)
theorem fuel_mono2 {x : List Int} (hx : x.length ≤ 200000) : shutterref01_Fill.l1.m KK KK x = some (x ++ List.replicate ((120 - x.length % 64) % 64) 0) := by
  have go : ∀ (k : Nat) (x : List Int), x.length ≤ 300000 → (120 - x.length % 64) % 64 < k → x.length + (120 - x.length % 64) % 64 ≤ 300000 →
      shutterref01_Fill.l1.m KK k x = some (x ++ List.replicate ((120 - x.length % 64) % 64) 0) := by
    intro k
    induction k with
    | zero => intro x _ h; omega
    | succ k ih =>
      intro x hx h h2
      rw [shutterref01_Fill.l1.m, Int.tmod_eq_emod_of_nonneg (by omega)]
      by_cases h56 : (x.length : Int) % 64 = 56
      · rw [if_pos h56]
        have : (120 - x.length % 64) % 64 = 0 := by omega
        rw [this]; simp
      · have e : (120 - x.length % 64) % 64 = (120 - (x ++ [0]).length % 64) % 64 + 1 := by simp only [List.length_append, List.length_cons, List.length_nil]; omega
        rw [if_neg h56, app_okU (by simp; omega), Option.bind_some, ih (x ++ [0]) (by simp only [List.length_append, List.length_cons, List.length_nil]; omega) (by omega) (by simp only [List.length_append, List.length_cons, List.length_nil] at e ⊢; omega), e, List.replicate_succ, List.append_assoc]; rfl
  exact go KK x (by omega) (by unfold KK; omega) (by omega)
theorem len_prog {t : hash_Sum} {n : Int} (hn : t.n' = n) (h0 : 0 ≤ n) (h1 : n ≤ 1000000) : ∀ (k : Nat) (x : List Int) (i : Int), 0 ≤ i → i ≤ 8 → 8 - i < (k : Int) → x.length ≤ 1000 + i.toNat →
    hash_Sum_End.l2.m KK t k x i = some (x ++ lbs n (8 - i).toNat i) := by
  intro k
  induction k with
  | zero => intro x i _ _ h; omega
  | succ k ih =>
    intro x i i0 i1 hk hx
    rw [hash_Sum_End.l2.m]
    simp only [letJ]
    by_cases h3 : i < 8
    · have q : w64 (8 * i) = 8 * i := w64_id (by omega) (by omega)
      have q2 : w64 (56 - 8 * i) = 56 - 8 * i := w64_id (by omega) (by omega)
      have q3 : IntKind.u64.wrap (8 * t.n') = 8 * n := by rw [hn, wrap_u64]; omega
      rw [if_pos h3, cond_true, q, q2, if_pos (by omega), q3, app_okU (by simp; omega), Option.bind_some, w64_id (n := i + 1) (by omega) (by omega), ih _ (i + 1) (by omega) (by omega) (by omega) (by simp; omega),
        show (8 - i).toNat = (8 - (i + 1)).toNat + 1 by omega]
      conv => rhs; unfold lbs
      rw [List.append_assoc]; rfl
    · rw [if_neg h3, cond_false, show (8 - i).toNat = 0 by omega]
      unfold lbs; simp
theorem mod_and {y : Int} (h0 : 0 ≤ y) (h1 : y < 9223372036854775808) : IntKind.u8.wrap (bAnd .i64 y 255) = IntKind.u8.wrap y := by
  obtain ⟨y, rfl⟩ := Int.eq_ofNat_of_zero_le h0
  have e : bAnd .i64 (y : Int) 255 = ((y &&& 255 : Nat) : Int) := bAnd64 (y := 255) (by omega) (by omega)
  rw [e, show 255 = 2 ^ 8 - 1 from rfl, Nat.and_two_pow_sub_one_eq_mod, wrap_u8, wrap_u8]
  omega
theorem shr_le {k : IntKind} {x n : Int} (h0 : 0 ≤ x) : 0 ≤ shr k x n ∧ shr k x n ≤ x := by
  obtain ⟨x, rfl⟩ := Int.eq_ofNat_of_zero_le h0
  have e : shr k (x : Int) n = ((x / 2 ^ (min n.toNat k.bits) : Nat) : Int) := by unfold shr; rw [pow_nat, Int.fdiv_eq_ediv_of_nonneg _ (Int.natCast_nonneg _), Int.natCast_ediv]
  rw [e]
  have := Nat.div_le_self x (2 ^ min n.toNat k.bits)
  generalize x / 2 ^ min n.toNat k.bits = z at *
  exact ⟨by omega, by omega⟩
theorem len_ref {x0 : List Int} (h1 : x0.length ≤ 1000000) : ∀ (k : Nat) (x : List Int) (i : Int), 0 ≤ i → i ≤ 8 → 8 - i < (k : Int) → x.length ≤ 2000000 + i.toNat →
    shutterref01_Fill.l2.m KK x0 k x i = some (x ++ lbs (x0.length : Int) (8 - i).toNat i) := by
  intro k
  induction k with
  | zero => intro x i _ _ h; omega
  | succ k ih =>
    intro x i i0 i1 hk hx
    rw [shutterref01_Fill.l2.m]
    by_cases h3 : i < 8
    · have q : w64 (8 * i) = 8 * i := w64_id (by omega) (by omega)
      have q2 : w64 (56 - 8 * i) = 56 - 8 * i := w64_id (by omega) (by omega)
      have q3 : w64 (8 * (x0.length : Int)) = 8 * (x0.length : Int) := w64_id (by omega) (by omega)
      have q4 : IntKind.u64.wrap (56 - 8 * i) = 56 - 8 * i := by rw [wrap_u64]; omega
      have e : IntKind.u8.wrap (bAnd .i64 (shr .i64 (8 * (x0.length : Int)) (56 - 8 * i)) 255) = lb (x0.length : Int) i := by
        have := shr_le (k := .i64) (x := 8 * (x0.length : Int)) (n := 56 - 8 * i) (by omega)
        rw [mod_and this.1 (by omega)]; rfl
      rw [if_pos h3, q, q2, q3, q4, e, if_pos (by omega), app_okU (by simp; omega), Option.bind_some, w64_id (n := i + 1) (by omega) (by omega), ih _ (i + 1) (by omega) (by omega) (by omega) (by simp; omega),
        show (8 - i).toNat = (8 - (i + 1)).toNat + 1 by omega]
      conv => rhs; unfold lbs
      rw [List.append_assoc]; rfl
    · rw [if_neg h3, show (8 - i).toNat = 0 by omega]
      unfold lbs; simp
def outB (h : List Int) : List Int := (shutterref01_Of.l3.m KK h KK 0 (List.replicate 32 0)).getD []
theorem out_lock {h : List Int} (kh : St8 h) {t : hash_Sum} (ht : t.h' = h) : ∀ (k : Nat) (i : Int) (o : List Int), 0 ≤ i → i ≤ 32 → 32 - i < (k : Int) → o.length = 32 → (∀ y ∈ o, Wf .u8 y) →
    ∃ o', hash_Sum_End.l3.m KK t k i o = some o' ∧ shutterref01_Of.l3.m KK h k i o = some o' ∧ o'.length = 32 ∧ ∀ y ∈ o', Wf .u8 y := by
  intro k
  induction k with
  | zero => intro i o _ _ h; omega
  | succ k ih =>
    intro i o i0 i1 hk ho wo
    rw [hash_Sum_End.l3.m, shutterref01_Of.l3.m]
    simp only [letJ]
    by_cases h3 : i < 32
    · have d : Int.tdiv i 4 = i / 4 := Int.tdiv_eq_ediv_of_nonneg i0
      have m : Int.tmod i 4 = i % 4 := Int.tmod_eq_emod_of_nonneg i0
      have q1 : w64 (i / 4) = i / 4 := w64_id (by omega) (by omega)
      have q2 : w64 (8 * (i % 4)) = 8 * (i % 4) := w64_id (by omega) (by omega)
      have q3 : w64 (24 - 8 * (i % 4)) = 24 - 8 * (i % 4) := w64_id (by omega) (by omega)
      have q4 : IntKind.u64.wrap (24 - 8 * (i % 4)) = 24 - 8 * (i % 4) := by rw [wrap_u64]; omega
      have wh := kh.wd _ (at_mem (l := h) (i := i / 4) (by omega) (by rw [kh.len]; omega))
      obtain ⟨z, hz⟩ : ∃ z : Nat, 24 - 8 * (i % 4) = (z : Int) := ⟨(24 - 8 * (i % 4)).toNat, by omega⟩
      have e : IntKind.u8.wrap (bAnd .i64 (shr .i64 (at_ h (i / 4)) (24 - 8 * (i % 4))) 255) = IntKind.u8.wrap (shr .u32 (at_ h (i / 4)) (24 - 8 * (i % 4))) := by
        generalize at_ h (i / 4) = x at *
        obtain ⟨x, rfl, hx⟩ := wh.nat
        rw [hz, shr_nat (k := .i64) (by omega) (by decide), shr_nat (k := .u32) (by omega) (by decide)]
        have := Nat.div_le_self x (2 ^ z)
        generalize x / 2 ^ z = y at *
        rw [mod_and (by omega) (by omega)]
      rw [if_pos h3, if_pos h3, cond_true, d, m, q1, q2, q3, q4, e, ht, if_pos (by omega), if_pos (by omega), if_pos (by omega), if_pos i0, if_pos h3, if_pos (by omega), if_pos (by omega), if_pos (by omega), if_pos i0, w64_id (n := i + 1) (by omega) (by omega)]
      refine ih (i + 1) _ (by omega) (by omega) (by omega) (by rw [List.length_set]; exact ho) fun y hy => ?_
      rcases List.mem_or_eq_of_mem_set hy with hy | rfl
      · exact wo y hy
      · exact wf_wrap8 _
    · rw [if_neg h3, if_neg h3, cond_false]
      exact ⟨o, rfl, by rw [if_neg h3], ho, wo⟩
theorem out_eq {h : List Int} (kh : St8 h) : (∀ t : hash_Sum, t.h' = h → hash_Sum_End.l3.m KK t KK 0 (List.replicate 32 (0 : Int)) = some (outB h)) ∧ shutterref01_Of.l3.m KK h KK 0 (List.replicate 32 (0 : Int)) = some (outB h) ∧ (outB h).length = 32 ∧ ∀ y ∈ outB h, Wf .u8 y := by
  have w : ∀ y ∈ List.replicate 32 (0 : Int), Wf .u8 y := fun y hy => by obtain rfl := List.eq_of_mem_replicate hy; exact wf_num (by omega) (by omega)
  have base := out_lock kh (t := ⟨h, [], 0⟩) rfl KK 0 (List.replicate 32 0) (by omega) (by omega) (by unfold KK; omega) (List.length_replicate ..) w
  obtain ⟨o, _, e2, e3, e4⟩ := base
  have eo : outB h = o := by unfold outB; rw [e2]; rfl
  rw [eo]
  refine ⟨fun t ht => ?_, e2, e3, e4⟩
  obtain ⟨o2, f1, f2, _, _⟩ := out_lock kh (t := t) ht KK 0 (List.replicate 32 0) (by omega) (by omega) (by unfold KK; omega) (List.length_replicate ..) w
  rw [f2] at e2
  rw [f1, Option.some.inj e2]
def sha (x : List Int) : List Int := outB (FB H0 (x ++ padL x.length)).1
theorem bytes_app {a b : List Int} (wa : ∀ y ∈ a, Wf .u8 y) (wb : ∀ y ∈ b, Wf .u8 y) : ∀ y ∈ a ++ b, Wf .u8 y := fun y hy => (List.mem_append.1 hy).elim (wa y) (wb y)
theorem sha_wf {x : List Int} (wx : ∀ y ∈ x, Wf .u8 y) : (sha x).length = 32 ∧ ∀ y ∈ sha x, Wf .u8 y := by
  unfold sha
  exact (out_eq (FB_st _ H0 (x ++ padL x.length) (Nat.le_refl _) st_H0 (bytes_app wx (padL_wf _))).1).2.2
theorem hash_eq {ps : List (List Int)} (hps : ps.length ≤ 100000) (hl : ps.flatten.length ≤ 100000) (wp : ∀ y ∈ ps.flatten, Wf .u8 y) : hash_Of.m KK ps = some (sha ps.flatten) := by
  unfold hash_Of.m
  rw [new_eqH, Option.bind_some, add_eq (by omega) (by simp) (by omega) (by omega) (by omega) st_H0 (by simp) wp, Option.bind_some, List.nil_append, Int.zero_add]
  generalize ps.flatten = x at *
  have f := FB_st _ H0 x (Nat.le_refl _) st_H0 wp
  unfold hash_Sum_End.m
  simp only
  have hr : (FB H0 x).2.length < 64 := by rw [f.2.2]; omega
  have hz : (120 - ((FB H0 x).2.length + [(128 : Int)].length) % 64) % 64 = zs x.length := by
    rw [f.2.2]; unfold zs; simp only [List.length_cons, List.length_nil]; omega
  rw [app_okU (by simp; omega), Option.bind_some, List.nil_append, fuel_mono1 hr (by simp), Option.bind_some, hz,
    len_prog (t := ⟨(FB H0 x).1, (FB H0 x).2, (x.length : Int)⟩) (n := (x.length : Int)) rfl (by omega) (by omega) KK _ 0 (by omega) (by omega) (by unfold KK; omega) (by simp; unfold zs; omega), Option.bind_some]
  have ep : [(128 : Int)] ++ List.replicate (zs x.length) 0 ++ lbs (x.length : Int) (8 - (0 : Int)).toNat 0 = padL x.length := rfl
  rw [ep]
  have hpl := padL_len x.length
  have fl : [padL x.length].flatten = padL x.length := by simp
  rw [add_eq (by simp) hr (by rw [fl]; omega) (by omega) (by omega) f.1 f.2.1 (by rw [fl]; exact padL_wf _), Option.bind_some, fl, ← FB_app _ H0 x _ (Nat.le_refl _)]
  have g := FB_st _ H0 (x ++ padL x.length) (Nat.le_refl _) st_H0 (bytes_app wp (padL_wf _))
  rw [(out_eq g.1).1 ⟨(FB H0 (x ++ padL x.length)).1, (FB H0 (x ++ padL x.length)).2, (x.length : Int) + ((padL x.length).length : Int)⟩ rfl, Option.bind_some, Option.bind_some]
  unfold sha
  simp only
theorem blocks_ref {t : List Int} (ht : t.length ≤ 1000000) (h64 : t.length % 64 = 0) (wt : ∀ y ∈ t, Wf .u8 y) : ∀ (k : Nat) (i : Nat) (h : List Int), i ≤ t.length → i % 64 = 0 → t.length - i < k → St8 h →
    shutterref01_Of.l2.m KK t k (i : Int) h = some (FB h (t.drop i)).1 := by
  intro k
  induction k with
  | zero => intro i h _ _ hk; omega
  | succ k ih =>
    intro i h hi hm hk kh
    rw [shutterref01_Of.l2.m, w64_id (n := (i : Int) + 64) (by omega) (by omega)]
    by_cases h3 : (i : Int) < (t.length : Int)
    · have hl : 64 ≤ (t.drop i).length := by rw [List.length_drop]; omega
      have e1 : sub t (i : Int) ((i : Int) + 64) = (t.drop i).take 64 := by
        unfold sub; rw [Int.toNat_natCast]; congr 1; omega
      have hp : ((t.drop i).take 64).length = 64 := by rw [List.length_take]; omega
      obtain ⟨c1, _, c3⟩ := cmp_eq kh hp (fun y hy => wt y (List.mem_of_mem_drop (List.mem_of_mem_take hy)))
      rw [if_pos h3, if_pos (by omega), if_pos (by omega), if_pos (by omega), e1, c1, Option.bind_some, FB_eq h (t.drop i), if_pos hl, List.drop_drop]
      exact ih (i + 64) _ (by omega) (by omega) (by omega) c3
    · rw [if_neg h3, List.drop_eq_nil_of_le (by omega), FB_eq, if_neg (by simp)]
theorem ref_eq {x : List Int} (hl : x.length ≤ 100000) (wx : ∀ y ∈ x, Wf .u8 y) : shutterref01_Of.m KK x = some (sha x) := by
  unfold shutterref01_Of.m shutterref01_Fill.m
  have hz : (120 - (x ++ [(128 : Int)]).length % 64) % 64 = zs x.length := by
    unfold zs; simp only [List.length_append, List.length_cons, List.length_nil]
  have ep : x ++ [(128 : Int)] ++ List.replicate (zs x.length) 0 ++ lbs (x.length : Int) (8 - (0 : Int)).toNat 0 = x ++ padL x.length := by
    unfold padL; simp
  rw [init_eq, Option.bind_some, app_okU (by simp; omega), Option.bind_some, List.nil_append, app_okU (by simp; omega), Option.bind_some, fuel_mono2 (by simp; omega), Option.bind_some, hz,
    len_ref (by omega) KK _ 0 (by omega) (by omega) (by unfold KK; omega) (by simp; unfold zs; omega), Option.bind_some, Option.bind_some, ep]
  have hpl := padL_len x.length
  have w := bytes_app wx (padL_wf x.length)
  have g := FB_st _ H0 (x ++ padL x.length) (Nat.le_refl _) st_H0 w
  have hb := blocks_ref (t := x ++ padL x.length) (by rw [List.length_append]; omega) (by rw [List.length_append]; omega) w KK 0 H0 (by omega) (by omega) (by rw [List.length_append]; unfold KK; omega) st_H0
  rw [List.drop_zero] at hb
  have hb' : shutterref01_Of.l2.m KK (x ++ padL x.length) KK 0 H0 = _ := hb
  rw [hb', Option.bind_some, (out_eq g.1).2.1, Option.bind_some]
  unfold sha
  rfl
end Go.Proofs.YtjkbhpokboolpaaGreatDoor.Sx

namespace Go.Proofs.YtjkbhpokboolpaaGreatDoor.Sx
open Go
set_option maxRecDepth 100000
def keyOf (k : List Int) : List Int := if 64 < k.length then sha k else k
def kpad (k : List Int) : List Int := keyOf k ++ List.replicate (64 - (keyOf k).length) 0
def xk (k : List Int) (v : Int) : List Int := (kpad k).map fun b => bXor .u8 b v
def hmac (k t : List Int) : List Int := sha (xk k 92 ++ sha (xk k 54 ++ t))
theorem keyOf_ok {k : List Int} (wk : ∀ y ∈ k, Wf .u8 y) : (keyOf k).length ≤ 64 ∧ ∀ y ∈ keyOf k, Wf .u8 y := by
  unfold keyOf
  split
  · have := sha_wf wk; exact ⟨by omega, this.2⟩
  · exact ⟨by omega, wk⟩
theorem kpad_ok {k : List Int} (wk : ∀ y ∈ k, Wf .u8 y) : (kpad k).length = 64 ∧ ∀ y ∈ kpad k, Wf .u8 y := by
  have := keyOf_ok wk
  unfold kpad
  refine ⟨by rw [List.length_append, List.length_replicate]; omega, bytes_app this.2 fun y hy => ?_⟩
  obtain rfl := List.eq_of_mem_replicate hy
  exact wf_num (by omega) (by omega)
theorem xor_wf (x y : Int) : Wf .u8 (bXor .u8 x y) := by unfold bXor; exact wf_wrap8 _
theorem xk_ok {k : List Int} (wk : ∀ y ∈ k, Wf .u8 y) (v : Int) : (xk k v).length = 64 ∧ ∀ y ∈ xk k v, Wf .u8 y := by
  unfold xk
  refine ⟨by rw [List.length_map]; exact (kpad_ok wk).1, fun y hy => ?_⟩
  obtain ⟨z, _, rfl⟩ := List.mem_map.1 hy
  exact xor_wf _ _
theorem hmac_ok {k t : List Int} (wk : ∀ y ∈ k, Wf .u8 y) (wt : ∀ y ∈ t, Wf .u8 y) : (hmac k t).length = 32 ∧ ∀ y ∈ hmac k t, Wf .u8 y := by
  unfold hmac
  exact sha_wf (bytes_app (xk_ok wk 92).2 (sha_wf (bytes_app (xk_ok wk 54).2 wt)).2)
theorem turn_loop (v : Int) {l0 : List Int} (h0 : l0.length = 64) : ∀ (k : Nat) (l : List Int) (i : Int), 0 ≤ i → i ≤ 64 → 64 - i < (k : Int) → l.length = 64 →
    mac_turned.l1.m KK v l0 k l i = some (l.take i.toNat ++ (l.drop i.toNat).map fun b => bXor .u8 b v) := by
  intro k
  induction k with
  | zero => intro l i _ _ h; omega
  | succ k ih =>
    intro l i i0 i1 hk hl
    rw [mac_turned.l1.m]
    simp only [letJ]
    by_cases h3 : i < 64
    · rw [if_pos (by omega), cond_true, if_pos i0, if_pos (by omega), w64_id (n := i + 1) (by omega) (by omega), ih _ (i + 1) (by omega) (by omega) (by omega) (by rw [List.length_set]; exact hl)]
      rw [show (i + 1).toNat = i.toNat + 1 by omega, take_set (by omega), List.drop_set_of_lt (by omega), drop_at (l := l) i0 (by omega), List.map_cons, List.append_assoc, show (i + 1).toNat = i.toNat + 1 by omega]; rfl
    · have : i = 64 := by omega
      subst this
      rw [if_neg (by omega), cond_false, List.take_of_length_le (by rw [hl]; decide), List.drop_eq_nil_of_le (by rw [hl]; decide)]; simp
theorem cpy_pad {k : List Int} (h : k.length ≤ 64) : cpy (List.replicate 64 (0 : Int)) k = k ++ List.replicate (64 - k.length) 0 := by
  unfold cpy; rw [List.length_replicate, List.take_of_length_le h, List.drop_replicate]
theorem turned_eq {k : List Int} (hk : k.length ≤ 100000) (wk : ∀ y ∈ k, Wf .u8 y) (v : Int) : mac_turned.m KK k v = some (xk k v) := by
  have rest : ∀ x : List Int, x.length ≤ 64 → ((mk 64 (0 : Int)).bind fun l41 => ((mac_turned.l1.m KK v l41 KK (cpy l41 x) 0).bind fun x52 => (some x52))) = some ((x ++ List.replicate (64 - x.length) 0).map fun b => bXor .u8 b v) := by
    intro x hx
    have e : mk 64 (0 : Int) = some (List.replicate 64 0) := by unfold mk Lim; rw [if_pos (by omega)]; rfl
    rw [e, Option.bind_some, cpy_pad hx, turn_loop v (List.length_replicate ..) KK _ 0 (by omega) (by omega) (by unfold KK; omega) (by rw [List.length_append, List.length_replicate]; omega), Option.bind_some]
    simp
  unfold mac_turned.m
  simp only [letJ]
  by_cases h : (k.length : Int) > 64
  · have s := sha_wf wk
    have f : [k].flatten = k := by simp
    rw [if_pos h, cond_true, hash_eq (ps := [k]) (by simp) (by rw [f]; exact hk) (by rw [f]; exact wk), Option.bind_some, f, rest _ (by omega)]
    unfold xk kpad keyOf; rw [if_pos (by omega)]
  · rw [if_neg h, cond_false, rest _ (by omega)]
    unfold xk kpad keyOf; rw [if_neg (by omega)]
theorem code_eq {k : List Int} {ps : List (List Int)} (hk : k.length ≤ 100000) (wk : ∀ y ∈ k, Wf .u8 y) (hp : ps.length ≤ 1000) (hf : ps.flatten.length ≤ 10000) (wp : ∀ y ∈ ps.flatten, Wf .u8 y) : mac_Code.m KK k ps = some (hmac k ps.flatten) := by
  have a1 := xk_ok wk 54
  have a2 := xk_ok wk 92
  have h1 : (xk k 54 :: ps).flatten = xk k 54 ++ ps.flatten := rfl
  have w1 := bytes_app a1.2 wp
  have s1 := sha_wf w1
  have h2 : [xk k 92, sha (xk k 54 ++ ps.flatten)].flatten = xk k 92 ++ sha (xk k 54 ++ ps.flatten) := by simp
  have i1 : slices_Insert_byte.m ps 0 [xk k 54] = some (xk k 54 :: ps) := by
    unfold slices_Insert_byte.m ins0 app Lim
    rw [if_pos rfl, if_pos (show ([xk k 54] : List (List Int)).length = 1 from rfl), if_pos (by simp only [List.length_cons, List.length_nil]; omega)]; rfl
  have c1 : slices_Clone_byte.m ps = some ps := by
    unfold slices_Clone_byte.m app Lim
    rw [if_pos (by simp only [List.length_nil]; omega)]; rfl
  unfold mac_Code.m
  rw [c1, Option.bind_some, turned_eq hk wk, Option.bind_some, i1, Option.bind_some, hash_eq (by simp only [List.length_cons]; omega) (by rw [h1, List.length_append]; omega) (by rw [h1]; exact w1), Option.bind_some, turned_eq hk wk, Option.bind_some, h1,
    hash_eq (by simp) (by rw [h2, List.length_append]; omega) (by rw [h2]; exact bytes_app a2.2 s1.2), Option.bind_some, h2]
  unfold hmac
  rfl
theorem tag_eq {k : List Int} {ps : List (List Int)} (hk : k.length ≤ 100000) (wk : ∀ y ∈ k, Wf .u8 y) (hp : ps.length ≤ 1000) (hf : ps.flatten.length ≤ 10000) (wp : ∀ y ∈ ps.flatten, Wf .u8 y) : mac_Tag.m KK k ps = some (sub (hmac k ps.flatten) 0 16) := by
  unfold mac_Tag.m; rw [code_eq hk wk hp hf wp, Option.bind_some]
theorem fill64 : ∀ (k : Nat) (x : List Int), x.length ≤ 64 → 64 - x.length < k → shutterref02_Code.l1.m KK k x = some (x ++ List.replicate (64 - x.length) 0) := by
  intro k
  induction k with
  | zero => intro x _ h; omega
  | succ k ih =>
    intro x hx h
    rw [shutterref02_Code.l1.m]
    by_cases h3 : (x.length : Int) < 64
    · rw [if_pos h3, app_okU (by simp; omega), Option.bind_some, ih (x ++ [0]) (by simp; omega) (by simp; omega)]
      rw [show 64 - x.length = (64 - (x ++ [0]).length) + 1 by simp; omega, List.replicate_succ, List.append_assoc]; rfl
    · rw [if_neg h3, show 64 - x.length = 0 by omega]; simp
theorem xors {l : List Int} (hl : l.length = 64) : ∀ (k : Nat) (a b : List Int) (i : Int), 0 ≤ i → i ≤ 64 → 64 - i < (k : Int) → a.length ≤ 100 + i.toNat → b.length ≤ 100 + i.toNat →
    shutterref02_Code.l2.m KK l k a b i = some (a ++ (l.drop i.toNat).map (fun x => bXor .u8 x 54), b ++ (l.drop i.toNat).map (fun x => bXor .u8 x 92)) := by
  intro k
  induction k with
  | zero => intro a b i _ _ h; omega
  | succ k ih =>
    intro a b i i0 i1 hk ha hb
    rw [shutterref02_Code.l2.m]
    by_cases h3 : i < 64
    · rw [if_pos h3, if_pos i0, if_pos (by omega), app_okU (by simp; omega), Option.bind_some, app_okU (by simp; omega), Option.bind_some, w64_id (n := i + 1) (by omega) (by omega), ih _ _ (i + 1) (by omega) (by omega) (by omega) (by simp; omega) (by simp; omega),
        drop_at (l := l) i0 (by omega), List.map_cons, List.map_cons, List.append_assoc, List.append_assoc]; rfl
    · rw [if_neg h3, List.drop_eq_nil_of_le (by omega)]; simp
theorem refcode_eq {k t : List Int} (hk : k.length ≤ 100000) (wk : ∀ y ∈ k, Wf .u8 y) (ht : t.length ≤ 10000) (wt : ∀ y ∈ t, Wf .u8 y) : shutterref02_Code.m KK k t = some (hmac k t) := by
  have a1 := xk_ok wk 54
  have a2 := xk_ok wk 92
  have w1 := bytes_app a1.2 wt
  have s1 := sha_wf w1
  have rest : ∀ x, x = keyOf k → ((shutterref02_Code.l1.m KK KK x).bind fun x64 => ((shutterref02_Code.l2.m KK x64 KK [] [] 0).bind fun (x91, x96) => ((app x91 t).bind fun l120 => ((shutterref01_Of.m KK l120).bind fun t125 => ((app x96 t125).bind fun l129 => ((shutterref01_Of.m KK l129).bind fun t134 => (some t134))))))) = some (hmac k t) := by
    rintro x rfl
    have ko := keyOf_ok wk
    rw [fill64 KK _ ko.1 (by unfold KK; omega), Option.bind_some, xors (l := keyOf k ++ List.replicate (64 - (keyOf k).length) 0) (kpad_ok wk).1 KK [] [] 0 (by omega) (by omega) (by unfold KK; omega) (by simp) (by simp), Option.bind_some]
    simp only [Int.toNat_zero, List.drop_zero, List.nil_append]
    have e1 : List.map (fun x => bXor .u8 x 54) (keyOf k ++ List.replicate (64 - (keyOf k).length) 0) = xk k 54 := rfl
    have e2 : List.map (fun x => bXor .u8 x 92) (keyOf k ++ List.replicate (64 - (keyOf k).length) 0) = xk k 92 := rfl
    rw [e1, e2, app_okU (by omega), Option.bind_some, ref_eq (by rw [List.length_append]; omega) w1, Option.bind_some, app_okU (by omega), Option.bind_some, ref_eq (by rw [List.length_append]; omega) (bytes_app a2.2 s1.2), Option.bind_some]
    unfold hmac
    rfl
  unfold shutterref02_Code.m
  simp only [letJ]
  rw [app_okU (by simp; omega), Option.bind_some, List.nil_append]
  by_cases h : (k.length : Int) > 64
  · have s := sha_wf wk
    rw [if_pos h, cond_true, ref_eq hk wk, Option.bind_some, app_okU (by simp; omega), Option.bind_some, List.nil_append]
    exact rest _ (by unfold keyOf; rw [if_pos (by omega)])
  · rw [if_neg h, cond_false]
    exact rest _ (by unfold keyOf; rw [if_neg (by omega)])
theorem reftag_eq {k t : List Int} (hk : k.length ≤ 100000) (wk : ∀ y ∈ k, Wf .u8 y) (ht : t.length ≤ 10000) (wt : ∀ y ∈ t, Wf .u8 y) : shutterref02_Tag.m KK k t = some (sub (hmac k t) 0 16) := by
  unfold shutterref02_Tag.m
  have h := (hmac_ok wk wt).1
  have hl : (sub (hmac k t) 0 16).length = 16 := by rw [sub_length (by omega)]; rfl
  rw [refcode_eq hk wk ht wt, Option.bind_some, app_okU (by simp; omega), Option.bind_some, List.nil_append]
end Go.Proofs.YtjkbhpokboolpaaGreatDoor.Sx
