/- Plain facts on package 02: bytes compared; the words' operations on natural numbers. -/
import Derived.Test.YtfbcjibdgicaoaaDoorGA
import Derived.Test.YtfbcjibdgicaoaaDoorSxR
namespace Go.Proofs.YtfbcjibdgicaoaaDoor.Sx
open Go

abbrev KK : Nat := 1048576

theorem w64_id {n : Int} (h1 : -9223372036854775808 ≤ n) (h2 : n ≤ 9223372036854775807) : w64 n = n := by
  unfold w64 IntKind.wrap
  simp [IntKind.signed, IntKind.bits]
  omega
theorem wrap_u8 (n : Int) : IntKind.u8.wrap n = n % 256 := by
  unfold IntKind.wrap
  simp [IntKind.signed, IntKind.bits]
theorem wrap_u32 (n : Int) : IntKind.u32.wrap n = n % 4294967296 := by
  unfold IntKind.wrap
  simp [IntKind.signed, IntKind.bits]
theorem wrap_u64 (n : Int) : IntKind.u64.wrap n = n % 18446744073709551616 := by
  unfold IntKind.wrap
  simp [IntKind.signed, IntKind.bits]
theorem b_u8 {n : Int} (h : Wf .u8 n) : 0 ≤ n ∧ n ≤ 255 := bounds_u8 h
theorem b_u16 {n : Int} (h : Wf .u16 n) : 0 ≤ n ∧ n ≤ 65535 := bounds_u16 h
theorem drop_at {l : List Int} {i : Int} (h0 : 0 ≤ i) (h1 : i < (l.length : Int)) : l.drop i.toNat = at_ l i :: l.drop (i + 1).toNat := by
  have hlt : i.toNat < l.length := by omega
  rw [List.drop_eq_getElem_cons hlt]
  have e : (i + 1).toNat = i.toNat + 1 := by omega
  rw [e]
  congr 1
  unfold at_; rw [List.getD_eq_getElem?_getD, List.getElem?_eq_getElem hlt]; rfl
theorem at_mem {l : List Int} {i : Int} (h0 : 0 ≤ i) (h1 : i < (l.length : Int)) : at_ l i ∈ l := by
  have hlt : i.toNat < l.length := by omega
  unfold at_; rw [List.getD_eq_getElem?_getD, List.getElem?_eq_getElem hlt]; exact List.getElem_mem hlt

theorem same_eq {a b : List Int} (ha : a.length ≤ 100000) : shutterref01_Same.m KK a b = some (a == b) := by
  unfold shutterref01_Same.m
  by_cases hl : (a.length : Int) = (b.length : Int)
  · rw [if_pos hl]
    have step : ∀ (k : Nat) (i : Int), 0 ≤ i → i ≤ (a.length : Int) → (a.length : Int) - i < k →
        shutterref01_Same.l1.m KK a b k i = some (if a.drop i.toNat = b.drop i.toNat then .inr () else .inl false) := by
      intro k
      induction k with
      | zero => intro i h0 h1 h2; omega
      | succ k ih =>
        intro i h0 h1 h2
        rw [shutterref01_Same.l1.m]
        by_cases h3 : i < (a.length : Int)
        · rw [if_pos h3, if_pos h0, if_pos (by omega), drop_at h0 h3, drop_at (l := b) h0 (by omega)]
          by_cases he : at_ a i = at_ b i
          · rw [if_pos he, w64_id (n := i + 1) (by omega) (by omega), ih (i + 1) (by omega) (by omega) (by omega), he]
            simp only [List.cons.injEq, true_and]
          · rw [if_neg he, if_neg (by simp [he])]
        · rw [if_neg h3, if_pos]
          rw [List.drop_eq_nil_of_le (by omega), List.drop_eq_nil_of_le (by omega)]
    rw [step KK 0 (by omega) (by omega) (by unfold KK; omega), Option.bind_some]
    simp only [Int.toNat_zero, List.drop_zero]
    by_cases h : a = b
    · rw [if_pos h]; simp [h]
    · rw [if_neg h]; simp [h]
  · rw [if_neg hl]
    have : a ≠ b := fun e => hl (by rw [e])
    simp [this]

theorem toNat_ofInt {w n : Nat} (h : n < 2 ^ w) : (BitVec.ofInt w (n : Int)).toNat = n := by
  rw [BitVec.ofInt_natCast, BitVec.toNat_ofNat, Nat.mod_eq_of_lt h]
theorem nat_xor_zero {x y : Nat} : x ^^^ y = 0 ↔ x = y := by
  constructor
  · intro h
    have : x ^^^ (x ^^^ y) = x := by rw [h]; simp
    rw [← Nat.xor_assoc, Nat.xor_self, Nat.zero_xor] at this
    exact this.symm
  · rintro rfl; exact Nat.xor_self x
theorem bXor8 {x y : Nat} (hx : x < 256) (hy : y < 256) : bXor .u8 (x : Int) (y : Int) = ((x ^^^ y : Nat) : Int) := by
  unfold bXor
  have h := Nat.xor_lt_two_pow (n := 8) hx hy
  rw [BitVec.toNat_xor, toNat_ofInt (by exact hx), toNat_ofInt (by exact hy), wrap_u8]; omega
theorem bOr8 {x y : Nat} (hx : x < 256) (hy : y < 256) : bOr .u8 (x : Int) (y : Int) = ((x ||| y : Nat) : Int) := by
  unfold bOr
  have h := Nat.or_lt_two_pow (n := 8) hx hy
  rw [BitVec.toNat_or, toNat_ofInt (by exact hx), toNat_ofInt (by exact hy), wrap_u8]; omega

end Go.Proofs.YtfbcjibdgicaoaaDoor.Sx

