/- The plain part of the laws of package 04: what the printed models answer. -/
import Derived.Test.YtenlbpcfilmgpaaDoorG1
import Derived.Test.YtenlbpcfilmgpaaDoorSxR
namespace Go.Proofs.YtenlbpcfilmgpaaDoor.Sx
open Go

abbrev KK : Nat := 1048576

theorem w64_id {n : Int} (h1 : -9223372036854775808 ≤ n) (h2 : n ≤ 9223372036854775807) : w64 n = n := by
  unfold w64 IntKind.wrap
  simp [IntKind.signed, IntKind.bits]
  omega
theorem w8_mod (n : Int) : IntKind.u8.wrap n = n % 256 := by
  unfold IntKind.wrap
  simp [IntKind.signed, IntKind.bits]
theorem b_u8 {n : Int} (h : Wf .u8 n) : 0 ≤ n ∧ n ≤ 255 := bounds_u8 h
theorem b_u16 {n : Int} (h : Wf .u16 n) : 0 ≤ n ∧ n ≤ 65535 := bounds_u16 h
theorem b_i64 {n : Int} (h : Wf .i64 n) : -9223372036854775808 ≤ n ∧ n ≤ 9223372036854775807 := bounds_i64 h

theorem allN {N : Nat} {p : Int → Bool} (h : (List.range N).all (fun k => p (k : Int)) = true) {x : Int} (h0 : 0 ≤ x) (h1 : x < (N : Int)) : p x = true := by
  have := List.all_eq_true.1 h x.toNat (List.mem_range.2 (by omega))
  rwa [Int.toNat_of_nonneg h0] at this
theorem allNM {N M : Nat} {p : Int → Int → Bool} (h : (List.range N).all (fun k => (List.range M).all (fun j => p (k : Int) (j : Int))) = true) {x y : Int} (h0 : 0 ≤ x) (h1 : x < (N : Int)) (h2 : 0 ≤ y) (h3 : y < (M : Int)) : p x y = true := by
  have := List.all_eq_true.1 h x.toNat (List.mem_range.2 (by omega))
  rw [Int.toNat_of_nonneg h0] at this
  exact allN this h2 h3

def tabL : List Int := [64, 193, 194, 195, 196, 197, 198, 199, 200, 201, 74, 75, 76, 77, 78, 79, 80, 209, 210, 211, 212, 213, 214, 215, 216, 217, 90, 91, 92, 93, 94, 95, 96, 97, 226, 227, 228, 229, 230, 231, 232, 233, 106, 107, 108, 109, 110, 111, 240, 241, 242, 243, 244, 245, 246, 247, 248, 249, 122, 123, 124, 125, 126, 127]
def tab (k : Int) : Int := at_ tabL k
def okc (b : Int) : Bool := tab (b % 64) == b

set_option maxRecDepth 100000 in
theorem tab_all : (List.range 64).all (fun k => decide (64 ≤ tab (k : Int)) && decide (tab (k : Int) ≤ 255) && (tab (k : Int) % 64 == (k : Int)) && (six_at.m (k : Int) == some (tab (k : Int)))) = true := by kernel_rfl
set_option maxRecDepth 100000 in
theorem get_all : (List.range 256).all (fun b => six_Get.m (b : Int) == some (if okc (b : Int) then ((b : Int) % 64, GoErr.nil) else (0, GoErr.no 3))) = true := by kernel_rfl
set_option maxRecDepth 100000 in
theorem refget_all : (List.range 256).all (fun b => shutterref03_Get.m KK (b : Int) == some (if okc (b : Int) then (b : Int) % 64 else -1)) = true := by kernel_rfl
set_option maxRecDepth 100000 in
theorem or6_all : (List.range 64).all (fun a => (List.range 64).all fun b => bOr .i64 (shl .i64 (a : Int) 6) (b : Int) == 64 * (a : Int) + (b : Int)) = true := by kernel_rfl
set_option maxRecDepth 100000 in
theorem or8_all : (List.range 64).all (fun a => (List.range 256).all fun b => bOr .i64 (shl .i64 (a : Int) 8) (b : Int) == 256 * (a : Int) + (b : Int)) = true := by kernel_rfl
set_option maxRecDepth 100000 in
theorem and6_all : (List.range 4096).all (fun a => (bAnd .i64 (a : Int) 63 == (a : Int) % 64) && (shr .i64 (a : Int) 6 == (a : Int) / 64)) = true := by kernel_rfl

theorem tab_facts {k : Int} (h0 : 0 ≤ k) (h1 : k < 64) : 64 ≤ tab k ∧ tab k ≤ 255 ∧ tab k % 64 = k ∧ six_at.m k = some (tab k) := by
  have := allN (N := 64) (p := fun k => decide (64 ≤ tab k) && decide (tab k ≤ 255) && (tab k % 64 == k) && (six_at.m k == some (tab k))) tab_all h0 h1
  simp only [Bool.and_eq_true, decide_eq_true_eq, beq_iff_eq] at this
  exact ⟨this.1.1.1, this.1.1.2, this.1.2, this.2⟩
theorem get_eq {b : Int} (h0 : 0 ≤ b) (h1 : b ≤ 255) : six_Get.m b = some (if okc b then (b % 64, GoErr.nil) else (0, GoErr.no 3)) := by
  have := allN (N := 256) (p := fun b => six_Get.m b == some (if okc b then (b % 64, GoErr.nil) else (0, GoErr.no 3))) get_all h0 (by omega)
  simpa only [beq_iff_eq] using this
theorem refget_eq {b : Int} (h0 : 0 ≤ b) (h1 : b ≤ 255) : shutterref03_Get.m KK b = some (if okc b then b % 64 else -1) := by
  have := allN (N := 256) (p := fun b => shutterref03_Get.m KK b == some (if okc b then b % 64 else -1)) refget_all h0 (by omega)
  simpa only [beq_iff_eq] using this
theorem or6 {a b : Int} (h0 : 0 ≤ a) (h1 : a < 64) (h2 : 0 ≤ b) (h3 : b < 64) : bOr .i64 (shl .i64 a 6) b = 64 * a + b := by
  have := allNM (N := 64) (M := 64) (p := fun a b => bOr .i64 (shl .i64 a 6) b == 64 * a + b) or6_all h0 h1 h2 h3
  simpa only [beq_iff_eq] using this
theorem or8 {a b : Int} (h0 : 0 ≤ a) (h1 : a < 64) (h2 : 0 ≤ b) (h3 : b < 256) : bOr .i64 (shl .i64 a 8) b = 256 * a + b := by
  have := allNM (N := 64) (M := 256) (p := fun a b => bOr .i64 (shl .i64 a 8) b == 256 * a + b) or8_all h0 h1 h2 h3
  simpa only [beq_iff_eq] using this
theorem and6 {a : Int} (h0 : 0 ≤ a) (h1 : a < 4096) : bAnd .i64 a 63 = a % 64 ∧ shr .i64 a 6 = a / 64 := by
  have := allN (N := 4096) (p := fun a => (bAnd .i64 a 63 == a % 64) && (shr .i64 a 6 == a / 64)) and6_all h0 h1
  simpa only [Bool.and_eq_true, beq_iff_eq] using this

theorem awake04 : shutterlaw04_awake.m KK = some true := by kernel_rfl
end Go.Proofs.YtenlbpcfilmgpaaDoor.Sx
