/- Plain facts on package hash: its blocks are the document's. -/
import Derived.Test.YtpkcckaaocannaaDoorPT
namespace Go.Proofs.YtpkcckaaocannaaDoor.Sx
open Go
set_option maxRecDepth 100000

theorem turn_eq {x : Int} {n : Int} (h0 : 0 ≤ n) (h1 : n ≤ 32) : hash_turn.m x n = some (rot x n) := by
  unfold hash_turn.m rot
  rw [if_pos h0, w64_id (n := 32 - n) (by omega) (by omega), if_pos (by omega)]
theorem refturn_eq {x : Int} (hx : Wd x) {n : Nat} (h0 : 0 < n) (h1 : n < 32) : shutterref01_turn.m x (n : Int) = some (rot x n) := by
  unfold shutterref01_turn.m
  rw [w64_id (n := 32 - (n : Int)) (by omega) (by omega), wrap_u64, wrap_u64, Int.emod_eq_of_lt (by omega) (by omega), Int.emod_eq_of_lt (by omega) (by omega), if_pos (by omega), if_pos (by omega), (rot_same hx h0 h1).1]
theorem both_eq {x y : Int} (hx : Wd x) (hy : Wd y) : shutterref01_both.m x y = some (bAnd .u32 x y) := by
  unfold shutterref01_both.m; rw [(and_same hx hy).1]

theorem allN {N : Nat} {p : Int → Bool} (h : (List.range N).all (fun k => p (k : Int)) = true) {x : Int} (h0 : 0 ≤ x) (h1 : x < (N : Int)) : p x = true := by
  have := List.all_eq_true.1 h x.toNat (List.mem_range.2 (by omega))
  rwa [Int.toNat_of_nonneg h0] at this
def kt (i : Int) : Int := (shutterref01_Word.m KK (⟨#[52, 50, 56, 97, 50, 102, 57, 56, 55, 49, 51, 55, 52, 52, 57, 49, 98, 53, 99, 48, 102, 98, 99, 102, 101, 57, 98, 53, 100, 98, 97, 53, 51, 57, 53, 54, 99, 50, 53, 98, 53, 57, 102, 49, 49, 49, 102, 49, 57, 50, 51, 102, 56, 50, 97, 52, 97, 98, 49, 99, 53, 101, 100, 53, 100, 56, 48, 55, 97, 97, 57, 56, 49, 50, 56, 51, 53, 98, 48, 49, 50, 52, 51, 49, 56, 53, 98, 101, 53, 53, 48, 99, 55, 100, 99, 51, 55, 50, 98, 101, 53, 100, 55, 52, 56, 48, 100, 101, 98, 49, 102, 101, 57, 98, 100, 99, 48, 54, 97, 55, 99, 49, 57, 98, 102, 49, 55, 52, 101, 52, 57, 98, 54, 57, 99, 49, 101, 102, 98, 101, 52, 55, 56, 54, 48, 102, 99, 49, 57, 100, 99, 54, 50, 52, 48, 99, 97, 49, 99, 99, 50, 100, 101, 57, 50, 99, 54, 102, 52, 97, 55, 52, 56, 52, 97, 97, 53, 99, 98, 48, 97, 57, 100, 99, 55, 54, 102, 57, 56, 56, 100, 97, 57, 56, 51, 101, 53, 49, 53, 50, 97, 56, 51, 49, 99, 54, 54, 100, 98, 48, 48, 51, 50, 55, 99, 56, 98, 102, 53, 57, 55, 102, 99, 55, 99, 54, 101, 48, 48, 98, 102, 51, 100, 53, 97, 55, 57, 49, 52, 55, 48, 54, 99, 97, 54, 51, 53, 49, 49, 52, 50, 57, 50, 57, 54, 55, 50, 55, 98, 55, 48, 97, 56, 53, 50, 101, 49, 98, 50, 49, 51, 56, 52, 100, 50, 99, 54, 100, 102, 99, 53, 51, 51, 56, 48, 100, 49, 51, 54, 53, 48, 97, 55, 51, 53, 52, 55, 54, 54, 97, 48, 97, 98, 98, 56, 49, 99, 50, 99, 57, 50, 101, 57, 50, 55, 50, 50, 99, 56, 53, 97, 50, 98, 102, 101, 56, 97, 49, 97, 56, 49, 97, 54, 54, 52, 98, 99, 50, 52, 98, 56, 98, 55, 48, 99, 55, 54, 99, 53, 49, 97, 51, 100, 49, 57, 50, 101, 56, 49, 57, 100, 54, 57, 57, 48, 54, 50, 52, 102, 52, 48, 101, 51, 53, 56, 53, 49, 48, 54, 97, 97, 48, 55, 48, 49, 57, 97, 52, 99, 49, 49, 54, 49, 101, 51, 55, 54, 99, 48, 56, 50, 55, 52, 56, 55, 55, 52, 99, 51, 52, 98, 48, 98, 99, 98, 53, 51, 57, 49, 99, 48, 99, 98, 51, 52, 101, 100, 56, 97, 97, 52, 97, 53, 98, 57, 99, 99, 97, 52, 102, 54, 56, 50, 101, 54, 102, 102, 51, 55, 52, 56, 102, 56, 50, 101, 101, 55, 56, 97, 53, 54, 51, 54, 102, 56, 52, 99, 56, 55, 56, 49, 52, 56, 99, 99, 55, 48, 50, 48, 56, 57, 48, 98, 101, 102, 102, 102, 97, 97, 52, 53, 48, 54, 99, 101, 98, 98, 101, 102, 57, 97, 51, 102, 55, 99, 54, 55, 49, 55, 56, 102, 50]⟩ : ByteArray) i).getD 0
def ktOk (i : Int) : Bool := (shutterref01_Word.m KK (⟨#[52, 50, 56, 97, 50, 102, 57, 56, 55, 49, 51, 55, 52, 52, 57, 49, 98, 53, 99, 48, 102, 98, 99, 102, 101, 57, 98, 53, 100, 98, 97, 53, 51, 57, 53, 54, 99, 50, 53, 98, 53, 57, 102, 49, 49, 49, 102, 49, 57, 50, 51, 102, 56, 50, 97, 52, 97, 98, 49, 99, 53, 101, 100, 53, 100, 56, 48, 55, 97, 97, 57, 56, 49, 50, 56, 51, 53, 98, 48, 49, 50, 52, 51, 49, 56, 53, 98, 101, 53, 53, 48, 99, 55, 100, 99, 51, 55, 50, 98, 101, 53, 100, 55, 52, 56, 48, 100, 101, 98, 49, 102, 101, 57, 98, 100, 99, 48, 54, 97, 55, 99, 49, 57, 98, 102, 49, 55, 52, 101, 52, 57, 98, 54, 57, 99, 49, 101, 102, 98, 101, 52, 55, 56, 54, 48, 102, 99, 49, 57, 100, 99, 54, 50, 52, 48, 99, 97, 49, 99, 99, 50, 100, 101, 57, 50, 99, 54, 102, 52, 97, 55, 52, 56, 52, 97, 97, 53, 99, 98, 48, 97, 57, 100, 99, 55, 54, 102, 57, 56, 56, 100, 97, 57, 56, 51, 101, 53, 49, 53, 50, 97, 56, 51, 49, 99, 54, 54, 100, 98, 48, 48, 51, 50, 55, 99, 56, 98, 102, 53, 57, 55, 102, 99, 55, 99, 54, 101, 48, 48, 98, 102, 51, 100, 53, 97, 55, 57, 49, 52, 55, 48, 54, 99, 97, 54, 51, 53, 49, 49, 52, 50, 57, 50, 57, 54, 55, 50, 55, 98, 55, 48, 97, 56, 53, 50, 101, 49, 98, 50, 49, 51, 56, 52, 100, 50, 99, 54, 100, 102, 99, 53, 51, 51, 56, 48, 100, 49, 51, 54, 53, 48, 97, 55, 51, 53, 52, 55, 54, 54, 97, 48, 97, 98, 98, 56, 49, 99, 50, 99, 57, 50, 101, 57, 50, 55, 50, 50, 99, 56, 53, 97, 50, 98, 102, 101, 56, 97, 49, 97, 56, 49, 97, 54, 54, 52, 98, 99, 50, 52, 98, 56, 98, 55, 48, 99, 55, 54, 99, 53, 49, 97, 51, 100, 49, 57, 50, 101, 56, 49, 57, 100, 54, 57, 57, 48, 54, 50, 52, 102, 52, 48, 101, 51, 53, 56, 53, 49, 48, 54, 97, 97, 48, 55, 48, 49, 57, 97, 52, 99, 49, 49, 54, 49, 101, 51, 55, 54, 99, 48, 56, 50, 55, 52, 56, 55, 55, 52, 99, 51, 52, 98, 48, 98, 99, 98, 53, 51, 57, 49, 99, 48, 99, 98, 51, 52, 101, 100, 56, 97, 97, 52, 97, 53, 98, 57, 99, 99, 97, 52, 102, 54, 56, 50, 101, 54, 102, 102, 51, 55, 52, 56, 102, 56, 50, 101, 101, 55, 56, 97, 53, 54, 51, 54, 102, 56, 52, 99, 56, 55, 56, 49, 52, 56, 99, 99, 55, 48, 50, 48, 56, 57, 48, 98, 101, 102, 102, 102, 97, 97, 52, 53, 48, 54, 99, 101, 98, 98, 101, 102, 57, 97, 51, 102, 55, 99, 54, 55, 49, 55, 56, 102, 50]⟩ : ByteArray) i == some (kt i)) && (hash_digits.m KK (⟨#[52, 50, 56, 97, 50, 102, 57, 56, 55, 49, 51, 55, 52, 52, 57, 49, 98, 53, 99, 48, 102, 98, 99, 102, 101, 57, 98, 53, 100, 98, 97, 53, 51, 57, 53, 54, 99, 50, 53, 98, 53, 57, 102, 49, 49, 49, 102, 49, 57, 50, 51, 102, 56, 50, 97, 52, 97, 98, 49, 99, 53, 101, 100, 53, 100, 56, 48, 55, 97, 97, 57, 56, 49, 50, 56, 51, 53, 98, 48, 49, 50, 52, 51, 49, 56, 53, 98, 101, 53, 53, 48, 99, 55, 100, 99, 51, 55, 50, 98, 101, 53, 100, 55, 52, 56, 48, 100, 101, 98, 49, 102, 101, 57, 98, 100, 99, 48, 54, 97, 55, 99, 49, 57, 98, 102, 49, 55, 52, 101, 52, 57, 98, 54, 57, 99, 49, 101, 102, 98, 101, 52, 55, 56, 54, 48, 102, 99, 49, 57, 100, 99, 54, 50, 52, 48, 99, 97, 49, 99, 99, 50, 100, 101, 57, 50, 99, 54, 102, 52, 97, 55, 52, 56, 52, 97, 97, 53, 99, 98, 48, 97, 57, 100, 99, 55, 54, 102, 57, 56, 56, 100, 97, 57, 56, 51, 101, 53, 49, 53, 50, 97, 56, 51, 49, 99, 54, 54, 100, 98, 48, 48, 51, 50, 55, 99, 56, 98, 102, 53, 57, 55, 102, 99, 55, 99, 54, 101, 48, 48, 98, 102, 51, 100, 53, 97, 55, 57, 49, 52, 55, 48, 54, 99, 97, 54, 51, 53, 49, 49, 52, 50, 57, 50, 57, 54, 55, 50, 55, 98, 55, 48, 97, 56, 53, 50, 101, 49, 98, 50, 49, 51, 56, 52, 100, 50, 99, 54, 100, 102, 99, 53, 51, 51, 56, 48, 100, 49, 51, 54, 53, 48, 97, 55, 51, 53, 52, 55, 54, 54, 97, 48, 97, 98, 98, 56, 49, 99, 50, 99, 57, 50, 101, 57, 50, 55, 50, 50, 99, 56, 53, 97, 50, 98, 102, 101, 56, 97, 49, 97, 56, 49, 97, 54, 54, 52, 98, 99, 50, 52, 98, 56, 98, 55, 48, 99, 55, 54, 99, 53, 49, 97, 51, 100, 49, 57, 50, 101, 56, 49, 57, 100, 54, 57, 57, 48, 54, 50, 52, 102, 52, 48, 101, 51, 53, 56, 53, 49, 48, 54, 97, 97, 48, 55, 48, 49, 57, 97, 52, 99, 49, 49, 54, 49, 101, 51, 55, 54, 99, 48, 56, 50, 55, 52, 56, 55, 55, 52, 99, 51, 52, 98, 48, 98, 99, 98, 53, 51, 57, 49, 99, 48, 99, 98, 51, 52, 101, 100, 56, 97, 97, 52, 97, 53, 98, 57, 99, 99, 97, 52, 102, 54, 56, 50, 101, 54, 102, 102, 51, 55, 52, 56, 102, 56, 50, 101, 101, 55, 56, 97, 53, 54, 51, 54, 102, 56, 52, 99, 56, 55, 56, 49, 52, 56, 99, 99, 55, 48, 50, 48, 56, 57, 48, 98, 101, 102, 102, 102, 97, 97, 52, 53, 48, 54, 99, 101, 98, 98, 101, 102, 57, 97, 51, 102, 55, 99, 54, 55, 49, 55, 56, 102, 50]⟩ : ByteArray) i == some (kt i)) && decide (0 ≤ kt i) && decide (kt i < 4294967296)
theorem kt_all : (List.range 64).all (fun j => ktOk (j : Int)) = true := by kernel_rfl
theorem kt_eq {i : Int} (h0 : 0 ≤ i) (h1 : i < 64) : shutterref01_Word.m KK (⟨#[52, 50, 56, 97, 50, 102, 57, 56, 55, 49, 51, 55, 52, 52, 57, 49, 98, 53, 99, 48, 102, 98, 99, 102, 101, 57, 98, 53, 100, 98, 97, 53, 51, 57, 53, 54, 99, 50, 53, 98, 53, 57, 102, 49, 49, 49, 102, 49, 57, 50, 51, 102, 56, 50, 97, 52, 97, 98, 49, 99, 53, 101, 100, 53, 100, 56, 48, 55, 97, 97, 57, 56, 49, 50, 56, 51, 53, 98, 48, 49, 50, 52, 51, 49, 56, 53, 98, 101, 53, 53, 48, 99, 55, 100, 99, 51, 55, 50, 98, 101, 53, 100, 55, 52, 56, 48, 100, 101, 98, 49, 102, 101, 57, 98, 100, 99, 48, 54, 97, 55, 99, 49, 57, 98, 102, 49, 55, 52, 101, 52, 57, 98, 54, 57, 99, 49, 101, 102, 98, 101, 52, 55, 56, 54, 48, 102, 99, 49, 57, 100, 99, 54, 50, 52, 48, 99, 97, 49, 99, 99, 50, 100, 101, 57, 50, 99, 54, 102, 52, 97, 55, 52, 56, 52, 97, 97, 53, 99, 98, 48, 97, 57, 100, 99, 55, 54, 102, 57, 56, 56, 100, 97, 57, 56, 51, 101, 53, 49, 53, 50, 97, 56, 51, 49, 99, 54, 54, 100, 98, 48, 48, 51, 50, 55, 99, 56, 98, 102, 53, 57, 55, 102, 99, 55, 99, 54, 101, 48, 48, 98, 102, 51, 100, 53, 97, 55, 57, 49, 52, 55, 48, 54, 99, 97, 54, 51, 53, 49, 49, 52, 50, 57, 50, 57, 54, 55, 50, 55, 98, 55, 48, 97, 56, 53, 50, 101, 49, 98, 50, 49, 51, 56, 52, 100, 50, 99, 54, 100, 102, 99, 53, 51, 51, 56, 48, 100, 49, 51, 54, 53, 48, 97, 55, 51, 53, 52, 55, 54, 54, 97, 48, 97, 98, 98, 56, 49, 99, 50, 99, 57, 50, 101, 57, 50, 55, 50, 50, 99, 56, 53, 97, 50, 98, 102, 101, 56, 97, 49, 97, 56, 49, 97, 54, 54, 52, 98, 99, 50, 52, 98, 56, 98, 55, 48, 99, 55, 54, 99, 53, 49, 97, 51, 100, 49, 57, 50, 101, 56, 49, 57, 100, 54, 57, 57, 48, 54, 50, 52, 102, 52, 48, 101, 51, 53, 56, 53, 49, 48, 54, 97, 97, 48, 55, 48, 49, 57, 97, 52, 99, 49, 49, 54, 49, 101, 51, 55, 54, 99, 48, 56, 50, 55, 52, 56, 55, 55, 52, 99, 51, 52, 98, 48, 98, 99, 98, 53, 51, 57, 49, 99, 48, 99, 98, 51, 52, 101, 100, 56, 97, 97, 52, 97, 53, 98, 57, 99, 99, 97, 52, 102, 54, 56, 50, 101, 54, 102, 102, 51, 55, 52, 56, 102, 56, 50, 101, 101, 55, 56, 97, 53, 54, 51, 54, 102, 56, 52, 99, 56, 55, 56, 49, 52, 56, 99, 99, 55, 48, 50, 48, 56, 57, 48, 98, 101, 102, 102, 102, 97, 97, 52, 53, 48, 54, 99, 101, 98, 98, 101, 102, 57, 97, 51, 102, 55, 99, 54, 55, 49, 55, 56, 102, 50]⟩ : ByteArray) i = some (kt i) ∧ hash_digits.m KK (⟨#[52, 50, 56, 97, 50, 102, 57, 56, 55, 49, 51, 55, 52, 52, 57, 49, 98, 53, 99, 48, 102, 98, 99, 102, 101, 57, 98, 53, 100, 98, 97, 53, 51, 57, 53, 54, 99, 50, 53, 98, 53, 57, 102, 49, 49, 49, 102, 49, 57, 50, 51, 102, 56, 50, 97, 52, 97, 98, 49, 99, 53, 101, 100, 53, 100, 56, 48, 55, 97, 97, 57, 56, 49, 50, 56, 51, 53, 98, 48, 49, 50, 52, 51, 49, 56, 53, 98, 101, 53, 53, 48, 99, 55, 100, 99, 51, 55, 50, 98, 101, 53, 100, 55, 52, 56, 48, 100, 101, 98, 49, 102, 101, 57, 98, 100, 99, 48, 54, 97, 55, 99, 49, 57, 98, 102, 49, 55, 52, 101, 52, 57, 98, 54, 57, 99, 49, 101, 102, 98, 101, 52, 55, 56, 54, 48, 102, 99, 49, 57, 100, 99, 54, 50, 52, 48, 99, 97, 49, 99, 99, 50, 100, 101, 57, 50, 99, 54, 102, 52, 97, 55, 52, 56, 52, 97, 97, 53, 99, 98, 48, 97, 57, 100, 99, 55, 54, 102, 57, 56, 56, 100, 97, 57, 56, 51, 101, 53, 49, 53, 50, 97, 56, 51, 49, 99, 54, 54, 100, 98, 48, 48, 51, 50, 55, 99, 56, 98, 102, 53, 57, 55, 102, 99, 55, 99, 54, 101, 48, 48, 98, 102, 51, 100, 53, 97, 55, 57, 49, 52, 55, 48, 54, 99, 97, 54, 51, 53, 49, 49, 52, 50, 57, 50, 57, 54, 55, 50, 55, 98, 55, 48, 97, 56, 53, 50, 101, 49, 98, 50, 49, 51, 56, 52, 100, 50, 99, 54, 100, 102, 99, 53, 51, 51, 56, 48, 100, 49, 51, 54, 53, 48, 97, 55, 51, 53, 52, 55, 54, 54, 97, 48, 97, 98, 98, 56, 49, 99, 50, 99, 57, 50, 101, 57, 50, 55, 50, 50, 99, 56, 53, 97, 50, 98, 102, 101, 56, 97, 49, 97, 56, 49, 97, 54, 54, 52, 98, 99, 50, 52, 98, 56, 98, 55, 48, 99, 55, 54, 99, 53, 49, 97, 51, 100, 49, 57, 50, 101, 56, 49, 57, 100, 54, 57, 57, 48, 54, 50, 52, 102, 52, 48, 101, 51, 53, 56, 53, 49, 48, 54, 97, 97, 48, 55, 48, 49, 57, 97, 52, 99, 49, 49, 54, 49, 101, 51, 55, 54, 99, 48, 56, 50, 55, 52, 56, 55, 55, 52, 99, 51, 52, 98, 48, 98, 99, 98, 53, 51, 57, 49, 99, 48, 99, 98, 51, 52, 101, 100, 56, 97, 97, 52, 97, 53, 98, 57, 99, 99, 97, 52, 102, 54, 56, 50, 101, 54, 102, 102, 51, 55, 52, 56, 102, 56, 50, 101, 101, 55, 56, 97, 53, 54, 51, 54, 102, 56, 52, 99, 56, 55, 56, 49, 52, 56, 99, 99, 55, 48, 50, 48, 56, 57, 48, 98, 101, 102, 102, 102, 97, 97, 52, 53, 48, 54, 99, 101, 98, 98, 101, 102, 57, 97, 51, 102, 55, 99, 54, 55, 49, 55, 56, 102, 50]⟩ : ByteArray) i = some (kt i) ∧ Wd (kt i) := by
  have := allN (p := ktOk) kt_all h0 h1
  unfold ktOk at this
  simp only [Bool.and_eq_true, beq_iff_eq, decide_eq_true_eq] at this
  exact ⟨this.1.1.1, this.1.1.2, this.1.2, this.2⟩

theorem or_add {x y k : Nat} (h : y < 2 ^ k) : x * 2 ^ k ||| y = x * 2 ^ k + y := by rw [← Nat.shiftLeft_eq, Nat.shiftLeft_add_eq_or_of_lt h]
theorem shl_nat {x n : Nat} (hn : n ≤ 32) (h : x * 2 ^ n < 4294967296) : shl .u32 (x : Int) (n : Int) = ((x * 2 ^ n : Nat) : Int) := by
  unfold shl
  rw [Int.toNat_natCast, Nat.min_eq_left (by show n ≤ 32; omega), wrap_u32, pow_nat, ← Int.natCast_mul]
  generalize x * 2 ^ n = y at *
  omega
theorem f2aux (x c : Nat) : x * 65536 + c * 256 = (x * 256 + c) * 256 := by omega
def wordOf (a b c d : Int) : Int := 16777216 * a + 65536 * b + 256 * c + d
theorem word_prog {a b c d : Int} (ha : 0 ≤ a ∧ a ≤ 255) (hb : 0 ≤ b ∧ b ≤ 255) (hc : 0 ≤ c ∧ c ≤ 255) (hd : 0 ≤ d ∧ d ≤ 255) :
    bOr .u32 (bOr .u32 (bOr .u32 (shl .u32 (IntKind.u32.wrap a) 24) (shl .u32 (IntKind.u32.wrap b) 16)) (shl .u32 (IntKind.u32.wrap c) 8)) (IntKind.u32.wrap d) = wordOf a b c d ∧ Wd (wordOf a b c d) := by
  rw [wrap_u32, wrap_u32, wrap_u32, wrap_u32, Int.emod_eq_of_lt ha.1 (by omega), Int.emod_eq_of_lt hb.1 (by omega), Int.emod_eq_of_lt hc.1 (by omega), Int.emod_eq_of_lt hd.1 (by omega)]
  obtain ⟨a, rfl⟩ := Int.eq_ofNat_of_zero_le ha.1
  obtain ⟨b, rfl⟩ := Int.eq_ofNat_of_zero_le hb.1
  obtain ⟨c, rfl⟩ := Int.eq_ofNat_of_zero_le hc.1
  obtain ⟨d, rfl⟩ := Int.eq_ofNat_of_zero_le hd.1
  have e1 : shl .u32 (a : Int) 24 = ((a * 2 ^ 24 : Nat) : Int) := shl_nat (n := 24) (by omega) (by omega)
  have e2 : shl .u32 (b : Int) 16 = ((b * 2 ^ 16 : Nat) : Int) := shl_nat (n := 16) (by omega) (by omega)
  have e3 : shl .u32 (c : Int) 8 = ((c * 2 ^ 8 : Nat) : Int) := shl_nat (n := 8) (by omega) (by omega)
  rw [e1, e2, e3, bOr32 (by omega) (by omega), or_add (k := 24) (by omega)]
  have f1 : a * 2 ^ 24 + b * 2 ^ 16 = (a * 256 + b) * 2 ^ 16 := by omega
  rw [f1, bOr32 (by omega) (by omega), or_add (k := 16) (by omega)]
  have f2 : (a * 256 + b) * 2 ^ 16 + c * 2 ^ 8 = ((a * 256 + b) * 256 + c) * 2 ^ 8 := f2aux _ _
  rw [f2, bOr32 (by omega) (by omega), or_add (k := 8) (by omega)]
  unfold wordOf Wd
  omega
theorem word_ref {a b c d : Int} (ha : 0 ≤ a ∧ a ≤ 255) (hb : 0 ≤ b ∧ b ≤ 255) (hc : 0 ≤ c ∧ c ≤ 255) (hd : 0 ≤ d ∧ d ≤ 255) :
    w64 (w64 (w64 (w64 (16777216 * w64 a) + w64 (65536 * w64 b)) + w64 (256 * w64 c)) + w64 d) = wordOf a b c d := by
  rw [w64_id (n := a) (by omega) (by omega), w64_id (n := b) (by omega) (by omega), w64_id (n := c) (by omega) (by omega), w64_id (n := d) (by omega) (by omega), w64_id (n := 16777216 * a) (by omega) (by omega), w64_id (n := 65536 * b) (by omega) (by omega), w64_id (n := 256 * c) (by omega) (by omega),
    w64_id (n := 16777216 * a + 65536 * b) (by omega) (by omega), w64_id (n := 16777216 * a + 65536 * b + 256 * c) (by omega) (by omega), w64_id (by omega) (by omega)]
  rfl
theorem tmod32 {n : Int} (h0 : 0 ≤ n) : Int.tmod n 4294967296 = IntKind.u32.wrap n := by rw [wrap_u32, Int.tmod_eq_emod_of_nonneg h0]
theorem sum2 {a b : Int} (ha : Wd a) (hb : Wd b) : Int.tmod (w64 (a + b)) 4294967296 = IntKind.u32.wrap (a + b) := by
  have := ha.1; have := ha.2; have := hb.1; have := hb.2
  rw [w64_id (by omega) (by omega), tmod32 (by omega)]
theorem sum4 {a b c d : Int} (ha : Wd a) (hb : Wd b) (hc : Wd c) (hd : Wd d) : Int.tmod (w64 (w64 (w64 (d + c) + b) + a)) 4294967296 = IntKind.u32.wrap (IntKind.u32.wrap (IntKind.u32.wrap (a + b) + c) + d) := by
  have := ha.1; have := ha.2; have := hb.1; have := hb.2; have := hc.1; have := hc.2; have := hd.1; have := hd.2
  rw [w64_id (n := d + c) (by omega) (by omega), w64_id (n := d + c + b) (by omega) (by omega), w64_id (by omega) (by omega), tmod32 (by omega), wrap_u32, wrap_u32, wrap_u32, wrap_u32]
  omega
theorem sum5 {a b c d e : Int} (ha : Wd a) (hb : Wd b) (hc : Wd c) (hd : Wd d) (he : Wd e) : Int.tmod (w64 (w64 (w64 (w64 (a + b) + c) + d) + e)) 4294967296 = IntKind.u32.wrap (IntKind.u32.wrap (IntKind.u32.wrap (IntKind.u32.wrap (a + b) + c) + d) + e) := by
  have := ha.1; have := ha.2; have := hb.1; have := hb.2; have := hc.1; have := hc.2; have := hd.1; have := hd.2; have := he.1; have := he.2
  rw [w64_id (n := a + b) (by omega) (by omega), w64_id (n := a + b + c) (by omega) (by omega), w64_id (n := a + b + c + d) (by omega) (by omega), w64_id (by omega) (by omega), tmod32 (by omega), wrap_u32, wrap_u32, wrap_u32, wrap_u32, wrap_u32]
  omega

theorem at_take {l : List Int} {n : Nat} {j : Int} (h0 : 0 ≤ j) (h : j < (n : Int)) : at_ (l.take n) j = at_ l j := by
  unfold at_; rw [List.getD_eq_getElem?_getD, List.getD_eq_getElem?_getD, List.getElem?_take, if_pos (by omega)]
theorem at_set {l : List Int} {n : Nat} {v : Int} {j : Int} (h0 : 0 ≤ j) (hn : n < l.length) : at_ (l.set n v) j = if j = (n : Int) then v else at_ l j := by
  unfold at_
  rw [List.getD_eq_getElem?_getD, List.getD_eq_getElem?_getD, List.getElem?_set]
  by_cases h : j = (n : Int)
  · rw [if_pos h, if_pos (by omega), if_pos hn]; rfl
  · rw [if_neg h, if_neg (by omega)]
theorem take_set {l : List Int} {n : Nat} {v : Int} (h : n < l.length) : (l.set n v).take (n + 1) = l.take n ++ [v] := by
  apply List.ext_getElem?
  intro j
  rw [List.getElem?_take, List.getElem?_append, List.getElem?_set, List.length_take, Nat.min_eq_left (by omega), List.getElem?_take]
  by_cases h1 : j < n
  · rw [if_pos (by omega), if_neg (by omega), if_pos h1, if_pos h1]
  · by_cases h2 : j = n
    · subst h2; rw [if_pos (by omega), if_pos rfl, if_pos h, if_neg (by omega)]; simp
    · rw [if_neg (by omega), if_neg h1, List.getElem?_eq_none (by simp; omega)]
theorem app_ok {l m : List Int} (h : l.length + m.length ≤ 1099511627776) : app l m = some (l ++ m) := by unfold app; rw [if_pos (by unfold Lim; exact h)]
theorem mem_at {l : List Int} {y : Int} (h : y ∈ l) : ∃ j : Int, 0 ≤ j ∧ j < (l.length : Int) ∧ at_ l j = y := by
  obtain ⟨n, hn, rfl⟩ := List.getElem_of_mem h
  refine ⟨(n : Int), by omega, by omega, ?_⟩
  unfold at_; rw [List.getD_eq_getElem?_getD, Int.toNat_natCast, List.getElem?_eq_getElem hn]; rfl

theorem sched_lock {p : List Int} (hp : p.length = 64) (wp : ∀ y ∈ p, Wf .u8 y) : ∀ (k : Nat) (i : Int) (w : List Int), 0 ≤ i → i ≤ 64 → 64 - i < (k : Int) → w.length = 64 → (∀ j : Int, 0 ≤ j → j < i → Wd (at_ w j)) →
    ∃ w', hash_words.l1.m KK p k i w = some w' ∧ shutterref01_Block.l1.m KK p k (w.take i.toNat) i = some w' ∧ w'.length = 64 ∧ ∀ y ∈ w', Wd y := by
  intro k
  induction k with
  | zero => intro i w h0 h1 h2; omega
  | succ k ih =>
    intro i w h0 h1 h2 hw ww
    rw [hash_words.l1.m, shutterref01_Block.l1.m]
    simp only [letJ]
    by_cases h3 : i < 64
    · have hl : (w.take i.toNat).length = i.toNat := by rw [List.length_take]; omega
      have hset : ∀ v, (w.set i.toNat v).length = 64 := fun v => by rw [List.length_set]; exact hw
      have next : ∀ v, Wd v → ∃ w', hash_words.l1.m KK p k (i + 1) (w.set i.toNat v) = some w' ∧ shutterref01_Block.l1.m KK p k (w.take i.toNat ++ [v]) (i + 1) = some w' ∧ w'.length = 64 ∧ ∀ y ∈ w', Wd y := by
        intro v hv
        have := ih (i + 1) (w.set i.toNat v) (by omega) (by omega) (by omega) (hset v) (fun j j0 j1 => by
          rw [at_set j0 (by omega)]
          split
          · exact hv
          · exact ww j j0 (by omega))
        rw [show (i + 1).toNat = i.toNat + 1 by omega, take_set (by omega)] at this
        exact this
      have e1 : w64 (i + 1) = i + 1 := w64_id (by omega) (by omega)
      rw [if_pos h3, if_pos h3, e1]
      by_cases h4 : i < 16
      · have q0 : w64 (4 * i) = 4 * i := w64_id (by omega) (by omega)
        have q1 : w64 (4 * i + 1) = 4 * i + 1 := w64_id (by omega) (by omega)
        have q2 : w64 (4 * i + 2) = 4 * i + 2 := w64_id (by omega) (by omega)
        have q3 : w64 (4 * i + 3) = 4 * i + 3 := w64_id (by omega) (by omega)
        rw [if_pos h4, if_pos h4]
        simp only [q0, q1, q2, q3, cond_true]
        have b0 := b_u8 (wp _ (at_mem (l := p) (i := 4 * i) (by omega) (by omega)))
        have b1 := b_u8 (wp _ (at_mem (l := p) (i := 4 * i + 1) (by omega) (by omega)))
        have b2 := b_u8 (wp _ (at_mem (l := p) (i := 4 * i + 2) (by omega) (by omega)))
        have b3 := b_u8 (wp _ (at_mem (l := p) (i := 4 * i + 3) (by omega) (by omega)))
        rw [if_pos (by omega), if_pos (by omega), if_pos (by omega), if_pos (by omega), if_pos (by omega), if_pos (by omega), if_pos (by omega), if_pos (by omega), if_pos h0, if_pos h3,
          if_pos (by omega), if_pos (by omega), if_pos (by omega), if_pos (by omega), if_pos (by omega), if_pos (by omega), if_pos (by omega), if_pos (by omega),
          word_ref b0 b1 b2 b3, (word_prog b0 b1 b2 b3).1, app_ok (by rw [hl]; simp; omega), Option.bind_some]
        exact next _ (word_prog b0 b1 b2 b3).2
      · have q15 : w64 (i - 15) = i - 15 := w64_id (by omega) (by omega)
        have q2 : w64 (i - 2) = i - 2 := w64_id (by omega) (by omega)
        have q7 : w64 (i - 7) = i - 7 := w64_id (by omega) (by omega)
        have q16 : w64 (i - 16) = i - 16 := w64_id (by omega) (by omega)
        have t15 : at_ (w.take i.toNat) (i - 15) = at_ w (i - 15) := at_take (by omega) (by omega)
        have t2 : at_ (w.take i.toNat) (i - 2) = at_ w (i - 2) := at_take (by omega) (by omega)
        have t7 : at_ (w.take i.toNat) (i - 7) = at_ w (i - 7) := at_take (by omega) (by omega)
        have t16 : at_ (w.take i.toNat) (i - 16) = at_ w (i - 16) := at_take (by omega) (by omega)
        have w15 := ww (i - 15) (by omega) (by omega)
        have w2 := ww (i - 2) (by omega) (by omega)
        have w7 := ww (i - 7) (by omega) (by omega)
        have w16 := ww (i - 16) (by omega) (by omega)
        rw [if_neg h4, if_neg h4]
        simp only [q15, q2, q7, q16, t15, t2, t7, t16, cond_false, cond_true]
        generalize at_ w (i - 15) = x15 at *
        generalize at_ w (i - 2) = x2 at *
        generalize at_ w (i - 7) = x7 at *
        generalize at_ w (i - 16) = x16 at *
        have r7 := refturn_eq w15 (n := 7) (by omega) (by omega)
        have r18 := refturn_eq w15 (n := 18) (by omega) (by omega)
        have r17 := refturn_eq w2 (n := 17) (by omega) (by omega)
        have r19 := refturn_eq w2 (n := 19) (by omega) (by omega)
        have d7 := (rot_same w15 (n := 7) (by omega) (by omega)).2
        have d18 := (rot_same w15 (n := 18) (by omega) (by omega)).2
        have d17 := (rot_same w2 (n := 17) (by omega) (by omega)).2
        have d19 := (rot_same w2 (n := 19) (by omega) (by omega)).2
        have s3 : shr .i64 x15 3 = shr .u32 x15 3 ∧ Wd (shr .u32 x15 3) := by
          obtain ⟨x, rfl, hx⟩ := w15.nat
          have a1 : shr .i64 (x : Int) 3 = ((x / 2 ^ 3 : Nat) : Int) := shr_nat (n := 3) (by omega) (by decide)
          have a2 : shr .u32 (x : Int) 3 = ((x / 2 ^ 3 : Nat) : Int) := shr_nat (n := 3) (by omega) (by decide)
          rw [a1, a2]; exact ⟨rfl, wd_nat (by omega)⟩
        have s10 : shr .i64 x2 10 = shr .u32 x2 10 ∧ Wd (shr .u32 x2 10) := by
          obtain ⟨x, rfl, hx⟩ := w2.nat
          have a1 : shr .i64 (x : Int) 10 = ((x / 2 ^ 10 : Nat) : Int) := shr_nat (n := 10) (by omega) (by decide)
          have a2 : shr .u32 (x : Int) 10 = ((x / 2 ^ 10 : Nat) : Int) := shr_nat (n := 10) (by omega) (by decide)
          rw [a1, a2]; exact ⟨rfl, wd_nat (by omega)⟩
        have x1 := xor_same d7 d18
        have x1' := xor_same x1.2 s3.2
        have x2' := xor_same d17 d19
        have x3 := xor_same x2'.2 s10.2
        rw [if_pos (by omega), if_pos (by omega), if_pos (by omega), if_pos (by omega), turn_eq (by omega) (by omega), turn_eq (by omega) (by omega), turn_eq (by omega) (by omega), turn_eq (by omega) (by omega)]
        simp only [Option.bind_some]
        rw [if_pos (by omega), if_pos (by omega), if_pos (by omega), if_pos (by omega), if_pos h0, if_pos h3, if_pos (by omega), if_pos (by omega), if_pos (by omega), if_pos (by omega)]
        erw [r7, r18, r17, r19]
        simp only [Option.bind_some]
        rw [if_pos (by omega), if_pos (by omega), if_pos (by omega), if_pos (by omega), if_pos (by omega), s3.1, s10.1]
        rw [show bXor .i64 (rot x2 ((17 : Nat) : Int)) (rot x2 ((19 : Nat) : Int)) = bXor .u32 (rot x2 17) (rot x2 19) from x2'.1, show bXor .i64 (rot x15 ((7 : Nat) : Int)) (rot x15 ((18 : Nat) : Int)) = bXor .u32 (rot x15 7) (rot x15 18) from x1.1]
        erw [x3.1, x1'.1]
        erw [sum4 (a := x16) w16 x1'.2 w7 x3.2]
        rw [app_ok (by rw [hl]; simp; omega), Option.bind_some]
        exact next _ (wd_wrap _)
    · have : i = 64 := by omega
      subst this
      rw [if_neg h3, if_neg h3, cond_false]
      refine ⟨w, rfl, ?_, hw, fun y hy => ?_⟩
      · rw [if_neg (by omega), List.take_of_length_le (by rw [hw]; decide)]
      · obtain ⟨j, j0, j1, rfl⟩ := mem_at hy
        exact ww j j0 (by omega)

theorem list8 {s : List Int} (h : s.length = 8) : ∃ a b c d e f g i, s = [a, b, c, d, e, f, g, i] := by
  match s, h with
  | [a, b, c, d, e, f, g, i], _ => exact ⟨a, b, c, d, e, f, g, i, rfl⟩
theorem rounds_lock {w : List Int} (hw : w.length = 64) (ww : ∀ y ∈ w, Wd y) : ∀ (k : Nat) (i : Int) (s : List Int), 0 ≤ i → i ≤ 64 → 64 - i < (k : Int) → s.length = 8 → (∀ y ∈ s, Wd y) →
    ∃ s', hash_Sum_block.l1.m KK w k i s = some s' ∧ shutterref01_Block.l2.m KK w k i s = some s' ∧ s'.length = 8 ∧ ∀ y ∈ s', Wd y := by
  intro k
  induction k with
  | zero => intro i s h0 h1 h2; omega
  | succ k ih =>
    intro i s h0 h1 h2 hs ws
    rw [hash_Sum_block.l1.m, shutterref01_Block.l2.m]
    simp only [letJ]
    by_cases h3 : i < 64
    · obtain ⟨a, b, c, d, e, f, g, q, rfl⟩ := list8 hs
      simp only [List.mem_cons, List.not_mem_nil, or_false, forall_eq_or_imp, forall_eq] at ws
      obtain ⟨wa, wb, wc, wd, we, wf, wg, wq⟩ := ws
      have a0 : at_ [a, b, c, d, e, f, g, q] 0 = a := rfl
      have a1 : at_ [a, b, c, d, e, f, g, q] 1 = b := rfl
      have a2 : at_ [a, b, c, d, e, f, g, q] 2 = c := rfl
      have a3 : at_ [a, b, c, d, e, f, g, q] 3 = d := rfl
      have a4 : at_ [a, b, c, d, e, f, g, q] 4 = e := rfl
      have a5 : at_ [a, b, c, d, e, f, g, q] 5 = f := rfl
      have a6 : at_ [a, b, c, d, e, f, g, q] 6 = g := rfl
      have a7 : at_ [a, b, c, d, e, f, g, q] 7 = q := rfl
      have e1 : w64 (i + 1) = i + 1 := w64_id (by omega) (by omega)
      obtain ⟨k1, k2, k3⟩ := kt_eq h0 h3
      have wi := ww _ (at_mem (l := w) h0 (by omega))
      have d6 : Wd (rot e 6) := (rot_same we (n := 6) (by omega) (by omega)).2
      have d11 : Wd (rot e 11) := (rot_same we (n := 11) (by omega) (by omega)).2
      have d25 : Wd (rot e 25) := (rot_same we (n := 25) (by omega) (by omega)).2
      have d2 : Wd (rot a 2) := (rot_same wa (n := 2) (by omega) (by omega)).2
      have d13 : Wd (rot a 13) := (rot_same wa (n := 13) (by omega) (by omega)).2
      have d22 : Wd (rot a 22) := (rot_same wa (n := 22) (by omega) (by omega)).2
      have r6 : shutterref01_turn.m e 6 = some (rot e 6) := refturn_eq we (n := 6) (by omega) (by omega)
      have r11 : shutterref01_turn.m e 11 = some (rot e 11) := refturn_eq we (n := 11) (by omega) (by omega)
      have r25 : shutterref01_turn.m e 25 = some (rot e 25) := refturn_eq we (n := 25) (by omega) (by omega)
      have r2 : shutterref01_turn.m a 2 = some (rot a 2) := refturn_eq wa (n := 2) (by omega) (by omega)
      have r13 : shutterref01_turn.m a 13 = some (rot a 13) := refturn_eq wa (n := 13) (by omega) (by omega)
      have r22 : shutterref01_turn.m a 22 = some (rot a 22) := refturn_eq wa (n := 22) (by omega) (by omega)
      have x1 := xor_same d6 d11
      have x2 := xor_same x1.2 d25
      have x3 := xor_same d2 d13
      have x4 := xor_same x3.2 d22
      have n1 := not_same we
      have c1 := and_same we wf
      have c2 := and_same n1.2 wg
      have c3 := xor_same c1.2 c2.2
      have m1 := and_same wa wb
      have m2 := and_same wa wc
      have m3 := and_same wb wc
      have m4 := xor_same m1.2 m2.2
      have m5 := xor_same m4.2 m3.2
      rw [if_pos h3, if_pos h3]
      simp only [a0, a1, a2, a3, a4, a5, a6, a7, e1, cond_true, n1.1]
      rw [if_pos h0, if_pos h3, both_eq we wf, both_eq n1.2 wg, both_eq wa wb, both_eq wa wc, both_eq wb wc, k1, k2]
      rw [turn_eq (x := e) (n := 6) (by omega) (by omega), turn_eq (x := e) (n := 11) (by omega) (by omega), turn_eq (x := e) (n := 25) (by omega) (by omega), turn_eq (x := a) (n := 2) (by omega) (by omega), turn_eq (x := a) (n := 13) (by omega) (by omega), turn_eq (x := a) (n := 22) (by omega) (by omega)]
      rw [r6, r11, r25, r2, r13, r22]
      simp only [Option.bind_some]
      rw [if_pos h0, if_pos (by omega)]
      generalize at_ w i = wt at *
      generalize kt i = ki at *
      have T1 := sum5 wq x2.2 c3.2 k3 wi
      have T2 := sum2 x4.2 m5.2
      have T3 := sum2 (wd_wrap (IntKind.u32.wrap (IntKind.u32.wrap (IntKind.u32.wrap (q + bXor .u32 (bXor .u32 (rot e 6) (rot e 11)) (rot e 25)) + bXor .u32 (bAnd .u32 e f) (bAnd .u32 (bXor .u32 4294967295 e) g)) + ki) + wt)) (wd_wrap (bXor .u32 (bXor .u32 (rot a 2) (rot a 13)) (rot a 22) + bXor .u32 (bXor .u32 (bAnd .u32 a b) (bAnd .u32 a c)) (bAnd .u32 b c)))
      have T4 := sum2 wd (wd_wrap (IntKind.u32.wrap (IntKind.u32.wrap (IntKind.u32.wrap (q + bXor .u32 (bXor .u32 (rot e 6) (rot e 11)) (rot e 25)) + bXor .u32 (bAnd .u32 e f) (bAnd .u32 (bXor .u32 4294967295 e) g)) + ki) + wt))
      rw [x1.1, x2.1, x3.1, x4.1, c3.1, m4.1, m5.1, T1, T2, T3, T4]
      refine ih (i + 1) _ (by omega) (by omega) (by omega) rfl ?_
      simp only [List.mem_cons, List.not_mem_nil, or_false, forall_eq_or_imp, forall_eq]
      exact ⟨wd_wrap _, wa, wb, wc, wd_wrap _, we, wf, wg⟩
    · have : i = 64 := by omega
      subst this
      rw [if_neg h3, if_neg h3, cond_false]
      exact ⟨s, rfl, by rw [if_neg (by omega)], hs, ws⟩
end Go.Proofs.YtpkcckaaocannaaDoor.Sx
