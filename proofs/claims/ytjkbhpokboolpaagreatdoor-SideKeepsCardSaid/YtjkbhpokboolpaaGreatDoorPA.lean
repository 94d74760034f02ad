import Derived.Test.YtjkbhpokboolpaaGreatDoorGA
import Derived.Test.YtjkbhpokboolpaaGreatDoorSxR
namespace Go.Proofs.YtjkbhpokboolpaaGreatDoor.Sx
open Go
abbrev KK : Nat := 1048576
theorem w64_id {n : Int} (h1 : -9223372036854775808 ≤ n) (h2 : n ≤ 9223372036854775807) : w64 n = n := by
  unfold w64 IntKind.wrap
  simp [IntKind.signed, IntKind.bits]
  omega
theorem w8_mod (n : Int) : IntKind.u8.wrap n = n % 256 := by
  unfold IntKind.wrap
  simp [IntKind.signed, IntKind.bits]
theorem b_u8 {n : Int} (h : Wf .u8 n) : 0 ≤ n ∧ n ≤ 255 := bounds_u8 h
theorem allN {N : Nat} {p : Int → Bool} (h : (List.range N).all (fun k => p (k : Int)) = true) {x : Int} (h0 : 0 ≤ x) (h1 : x < (N : Int)) : p x = true := by
  have := List.all_eq_true.1 h x.toNat (List.mem_range.2 (by omega))
  rwa [Int.toNat_of_nonneg h0] at this
def tabL : List Int := [64, 193, 194, 195, 196, 197, 198, 199, 200, 201, 74, 75, 76, 77, 78, 79, 80, 209, 210, 211, 212, 213, 214, 215, 216, 217, 90, 91, 92, 93, 94, 95, 96, 97, 226, 227, 228, 229, 230, 231, 232, 233, 106, 107, 108, 109, 110, 111, 240, 241, 242, 243, 244, 245, 246, 247, 248, 249, 122, 123, 124, 125, 126, 127]
def tab (k : Int) : Int := at_ tabL k
def okc (b : Int) : Bool := tab (b % 64) == b
set_option maxRecDepth 100000 in
theorem tab_all : (List.range 64).all (fun k => decide (64 ≤ tab (k : Int)) && decide (tab (k : Int) ≤ 255) && (tab (k : Int) % 64 == (k : Int)) && (six_at.m (k : Int) == some (tab (k : Int)))) = true := by kernel_rfl
set_option maxRecDepth 100000 in
theorem and6_all : (List.range 4096).all (fun a => (bAnd .i64 (a : Int) 63 == (a : Int) % 64) && (shr .i64 (a : Int) 6 == (a : Int) / 64)) = true := by kernel_rfl
theorem tab_facts {k : Int} (h0 : 0 ≤ k) (h1 : k < 64) : 64 ≤ tab k ∧ tab k ≤ 255 ∧ tab k % 64 = k ∧ six_at.m k = some (tab k) := by
  have := allN (N := 64) (p := fun k => decide (64 ≤ tab k) && decide (tab k ≤ 255) && (tab k % 64 == k) && (six_at.m k == some (tab k))) tab_all h0 h1
  simp only [Bool.and_eq_true, decide_eq_true_eq, beq_iff_eq] at this
  exact ⟨this.1.1.1, this.1.1.2, this.1.2, this.2⟩
theorem and6 {a : Int} (h0 : 0 ≤ a) (h1 : a < 4096) : bAnd .i64 a 63 = a % 64 ∧ shr .i64 a 6 = a / 64 := by
  have := allN (N := 4096) (p := fun a => (bAnd .i64 a 63 == a % 64) && (shr .i64 a 6 == a / 64)) and6_all h0 h1
  simpa only [Bool.and_eq_true, beq_iff_eq] using this
theorem long_eq (n : Int) : addr_Long.m n = some (decide (n > 4096)) := rfl
theorem sized_eq (n : Int) : addr_sized.m n = some (decide (1 ≤ n ∧ n ≤ 16383)) := by
  unfold addr_sized.m
  by_cases h : n ≥ 1
  · rw [if_pos h]; congr 1; simp; omega
  · rw [if_neg h]; congr 1; simp; omega
def rd6 (a b : Int) : Int × GoErr :=
  if okc a then (if okc b then (64 * (a % 64) + b % 64, GoErr.nil) else (0, .spot 1 (.no 3))) else (0, .spot 0 (.no 3))
def getOf (l : List Int) (n : Int) : Int × GoErr :=
  if 1 ≤ n ∧ n ≤ 16383 then
    if (l.length : Int) < 2 then (0, .no 2)
    else if n > 4096 then
      if at_ l 0 > 63 then (0, .spot 0 (.no 3))
      else if 256 * at_ l 0 + at_ l 1 ≥ n then (0, .no 4) else (256 * at_ l 0 + at_ l 1, .nil)
    else if (rd6 (at_ l 0) (at_ l 1)).2 = .nil then
      if (rd6 (at_ l 0) (at_ l 1)).1 ≥ n then (0, .no 4) else ((rd6 (at_ l 0) (at_ l 1)).1, .nil)
    else (0, (rd6 (at_ l 0) (at_ l 1)).2)
  else (0, .no 1)
theorem at_mem {l : List Int} {i : Int} (h0 : 0 ≤ i) (h1 : i < (l.length : Int)) : at_ l i ∈ l := by
  rw [at_eq (hi := by omega)]; exact List.getElem_mem _
theorem put6_eq {k : Int} (h0 : 0 ≤ k) (h1 : k < 64) : six_Put.m k = some (tab k, GoErr.nil) := by
  unfold six_Put.m
  rw [if_neg (by omega), if_neg (by omega), (tab_facts h0 h1).2.2.2, Option.bind_some]
def putOf (a n : Int) : List Int := if n > 4096 then [a / 256, a % 256] else [tab (a / 64), tab (a % 64)]
theorem put04 {a n : Int} (h1 : 1 ≤ n) (h2 : n ≤ 16383) (h3 : 0 ≤ a) (h4 : a < n) : addr_Put.m KK a n = some (putOf a n, GoErr.nil) := by
  unfold addr_Put.m putOf
  rw [sized_eq]
  simp only [letJ, Option.bind_some, show (1 ≤ n ∧ n ≤ 16383) from ⟨h1, h2⟩, decide_true, and_self, cond_true, cond_false, if_neg (show ¬ a < 0 by omega), if_neg (show ¬ a ≥ n by omega), long_eq]
  by_cases hl : n > 4096
  · simp only [hl, decide_true, cond_true, if_true]
    have e : shr .i64 a 8 = a / 256 := by
      unfold shr
      rw [show ((2 : Int) ^ (min (8 : Int).toNat IntKind.i64.bits)) = 256 from by decide, Int.fdiv_eq_ediv_of_nonneg _ (by decide)]
    rw [e, w8_mod, w8_mod, Int.emod_eq_of_lt (by omega) (by omega)]
  · simp only [hl, decide_false, cond_false, if_false]
    obtain ⟨e1, e2⟩ := and6 h3 (show a < 4096 by omega)
    have step : addr_Put.l1.m KK a (1048573 + 3) 0 (List.replicate 2 (0 : Int)) = some (.inr [tab (a / 64), tab (a % 64)]) := by
      rw [addr_Put.l1.m]
      simp only [letJ, e1, e2, List.length_cons, List.length_nil, show (0 : Int) < ((0 + 1 + 1 : Nat) : Int) from by decide, if_true, cond_true, Int.le_refl, show at_ [a / 64, a % 64] 0 = a / 64 from rfl, put6_eq (k := a / 64) (by omega) (by omega), Option.bind_some, show (0 : Int) < 2 from by decide]
      rw [addr_Put.l1.m]
      simp only [letJ, e1, e2, show w64 (0 + 1) = 1 from by decide, List.length_cons, List.length_nil, show (1 : Int) < ((0 + 1 + 1 : Nat) : Int) from by decide, if_true, cond_true, show (0 : Int) ≤ 1 from by decide, show at_ [a / 64, a % 64] 1 = a % 64 from rfl, put6_eq (k := a % 64) (by omega) (by omega), Option.bind_some, show (1 : Int) < 2 from by decide]
      rw [addr_Put.l1.m]
      simp only [letJ, e1, e2, show w64 (1 + 1) = 2 from by decide, List.length_cons, List.length_nil, show ¬ (2 : Int) < ((0 + 1 + 1 : Nat) : Int) from by decide, if_false, cond_false]
      rfl
    rw [show KK = 1048573 + 3 from rfl, step, Option.bind_some]
theorem put_u8 {a n : Int} (h2 : n ≤ 16383) (h3 : 0 ≤ a) (h4 : a < n) : ∀ y ∈ putOf a n, Wf .u8 y := by
  have wf : ∀ y : Int, 0 ≤ y → y ≤ 255 → Wf .u8 y := by
    intro y h0 h1
    unfold Wf
    simp [Lit.wf, IntKind.min, IntKind.max, IntKind.signed, IntKind.bits]
    omega
  unfold putOf
  intro y hy
  split at hy <;> simp only [List.mem_cons, List.not_mem_nil, or_false] at hy <;> rcases hy with rfl | rfl
  · exact wf _ (by omega) (by omega)
  · exact wf _ (by omega) (by omega)
  · have t := tab_facts (k := a / 64) (by omega) (by omega); exact wf _ (by omega) (by omega)
  · have t := tab_facts (k := a % 64) (by omega) (by omega); exact wf _ (by omega) (by omega)
theorem put_len (a n : Int) : (putOf a n).length = 2 := by unfold putOf; split <;> rfl
end Go.Proofs.YtjkbhpokboolpaaGreatDoor.Sx
