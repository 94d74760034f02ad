/- Package frame: datagrams are alike where frames are. -/
import Derived.Test.YtpkcckaaocannaaDoorFA
namespace Go.Proofs.YtpkcckaaocannaaDoor.Sx
open Go
set_option maxRecDepth 100000

theorem shr64_nat {x n : Nat} (hn : n ≤ 64) : shr .i64 (x : Int) (n : Int) = ((x / 2 ^ n : Nat) : Int) := by
  unfold shr
  rw [Int.toNat_natCast, show min n IntKind.i64.bits = n from Nat.min_eq_left hn, pow_nat, Int.fdiv_eq_ediv_of_nonneg _ (Int.natCast_nonneg _), Int.natCast_ediv]
/-- A number told by its bytes. -/
def fval : List Int → Int → Int
  | [], v => v
  | b :: l, v => fval l (v * 256 + b)
theorem up8 (z : Nat) : (((z / 256 : Nat) : Int)) * 256 + ((z % 256 : Nat) : Int) = ((z : Nat) : Int) := by omega
theorem sb_nat {q n : Nat} (i : Int) (h : 56 - 8 * i = (n : Int)) (hn : n ≤ 64) : sb (q : Int) i = ((q / 2 ^ n % 256 : Nat) : Int) := by
  unfold sb; rw [h, shr64_nat hn, wrap_u8]; generalize q / 2 ^ n = z; omega
theorem div8 (q n : Nat) : q / 2 ^ (n + 8) = q / 2 ^ n / 256 := by rw [Nat.pow_add, ← Nat.div_div_eq_div_mul]
theorem fval_sbs {q : Int} (h0 : 0 ≤ q) (h1 : q ≤ 4611686018427387904) : fval (sbs q 8 0) 0 = q := by
  obtain ⟨q, rfl⟩ := Int.eq_ofNat_of_zero_le h0
  have big : (2 : Nat) ^ (56 + 8) = 18446744073709551616 := by decide
  have top : q / 2 ^ 56 / 256 = 0 := by
    rw [← div8, big]; exact Nat.div_eq_of_lt (by omega)
  simp only [sbs, fval]
  rw [sb_nat (n := 56) 0 (by omega) (by omega), sb_nat (n := 48) (0 + 1) (by omega) (by omega), sb_nat (n := 40) (0 + 1 + 1) (by omega) (by omega), sb_nat (n := 32) (0 + 1 + 1 + 1) (by omega) (by omega), sb_nat (n := 24) (0 + 1 + 1 + 1 + 1) (by omega) (by omega),
    sb_nat (n := 16) (0 + 1 + 1 + 1 + 1 + 1) (by omega) (by omega), sb_nat (n := 8) (0 + 1 + 1 + 1 + 1 + 1 + 1) (by omega) (by omega), sb_nat (n := 0) (0 + 1 + 1 + 1 + 1 + 1 + 1 + 1) (by omega) (by omega)]
  have t0 : (0 : Int) * 256 = (((q / 2 ^ 56 / 256 : Nat) : Int)) * 256 := by rw [top]; rfl
  rw [t0, up8, div8 q 48, up8, div8 q 40, up8, div8 q 32, up8, div8 q 24, up8, div8 q 16, up8, div8 q 8, up8, div8 q 0, up8, Nat.pow_zero, Nat.div_one]
theorem sealT_inj {k : List Int} {f g : api_Frame} (wk : ∀ y ∈ k, Wf .u8 y) (wf : ∀ y ∈ f.Body, Wf .u8 y) (wg : ∀ y ∈ g.Body, Wf .u8 y) (of : okF f) (og : okF g) (h : sealT k f = sealT k g) : f = g := by
  have lf := (sealT_ok wk wf).1
  have lg := (sealT_ok wk wg).1
  have hl : f.Body.length = g.Body.length := by rw [h] at lf; omega
  have ht : txt f = txt g := by
    have := congrArg (List.take (10 + f.Body.length)) h
    unfold sealT at this
    rwa [List.take_append_of_le_length (by rw [txt_len]; omega), List.take_append_of_le_length (by rw [txt_len]; omega), List.take_of_length_le (by rw [txt_len]; omega), List.take_of_length_le (by rw [txt_len]; omega)] at this
  unfold txt at ht
  simp only [List.cons.injEq, true_and] at ht
  obtain ⟨hd, hs⟩ := ht
  have h1 : sbs f.Seq 8 0 = sbs g.Seq 8 0 ∧ f.Body = g.Body := List.append_inj hs (by rw [sbs_len, sbs_len])
  have hq : f.Seq = g.Seq := by
    have : fval (sbs f.Seq 8 0) 0 = fval (sbs g.Seq 8 0) 0 := by rw [h1.1]
    rwa [fval_sbs (by have := of.2.1; omega) of.2.2, fval_sbs (by have := og.2.1; omega) og.2.2] at this
  have hD : f.Dir = g.Dir := by
    rw [wrap_u8, wrap_u8] at hd
    rcases of.1 with a | a <;> rcases og.1 with b | b <;> rw [a, b] at hd ⊢ <;> omega
  cases f; cases g
  simp only at hD hq h1
  rw [hD, hq, h1.2]
end Go.Proofs.YtpkcckaaocannaaDoor.Sx

