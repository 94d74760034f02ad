import Derived.Test.YtfkdbplnjlkcdaaGreatDoorGA
import Derived.Test.YtfkdbplnjlkcdaaGreatDoorSxR
namespace Go.Proofs.YtfkdbplnjlkcdaaGreatDoor.Sx
open Go
abbrev KK : Nat := 1048576
theorem w64_id {n : Int} (h1 : -9223372036854775808 ≤ n) (h2 : n ≤ 9223372036854775807) : w64 n = n := by
  unfold w64 IntKind.wrap
  simp [IntKind.signed, IntKind.bits]
  omega
theorem w8_mod (n : Int) : IntKind.u8.wrap n = n % 256 := by
  unfold IntKind.wrap
  simp [IntKind.signed, IntKind.bits]
theorem b_u8 {n : Int} (h : Wf .u8 n) : 0 ≤ n ∧ n ≤ 255 := bounds_u8 h
theorem b_u16 {n : Int} (h : Wf .u16 n) : 0 ≤ n ∧ n ≤ 65535 := bounds_u16 h
theorem allN {N : Nat} {p : Int → Bool} (h : (List.range N).all (fun k => p (k : Int)) = true) {x : Int} (h0 : 0 ≤ x) (h1 : x < (N : Int)) : p x = true := by
  have := List.all_eq_true.1 h x.toNat (List.mem_range.2 (by omega))
  rwa [Int.toNat_of_nonneg h0] at this
theorem allNM {N M : Nat} {p : Int → Int → Bool} (h : (List.range N).all (fun k => (List.range M).all (fun j => p (k : Int) (j : Int))) = true) {x y : Int} (h0 : 0 ≤ x) (h1 : x < (N : Int)) (h2 : 0 ≤ y) (h3 : y < (M : Int)) : p x y = true := by
  have := List.all_eq_true.1 h x.toNat (List.mem_range.2 (by omega))
  rw [Int.toNat_of_nonneg h0] at this
  exact allN this h2 h3
def tabL : List Int := [64, 193, 194, 195, 196, 197, 198, 199, 200, 201, 74, 75, 76, 77, 78, 79, 80, 209, 210, 211, 212, 213, 214, 215, 216, 217, 90, 91, 92, 93, 94, 95, 96, 97, 226, 227, 228, 229, 230, 231, 232, 233, 106, 107, 108, 109, 110, 111, 240, 241, 242, 243, 244, 245, 246, 247, 248, 249, 122, 123, 124, 125, 126, 127]
def tab (k : Int) : Int := at_ tabL k
def okc (b : Int) : Bool := tab (b % 64) == b
set_option maxRecDepth 100000 in
theorem tab_all : (List.range 64).all (fun k => decide (64 ≤ tab (k : Int)) && decide (tab (k : Int) ≤ 255) && (tab (k : Int) % 64 == (k : Int)) && (six_at.m (k : Int) == some (tab (k : Int)))) = true := by kernel_rfl
set_option maxRecDepth 100000 in
theorem get_all : (List.range 256).all (fun b => six_Get.m (b : Int) == some (if okc (b : Int) then ((b : Int) % 64, GoErr.nil) else (0, GoErr.no 3))) = true := by kernel_rfl
set_option maxRecDepth 100000 in
theorem or6_all : (List.range 64).all (fun a => (List.range 64).all fun b => bOr .i64 (shl .i64 (a : Int) 6) (b : Int) == 64 * (a : Int) + (b : Int)) = true := by kernel_rfl
set_option maxRecDepth 100000 in
theorem or8_all : (List.range 64).all (fun a => (List.range 256).all fun b => bOr .i64 (shl .i64 (a : Int) 8) (b : Int) == 256 * (a : Int) + (b : Int)) = true := by kernel_rfl
set_option maxRecDepth 100000 in
theorem and6_all : (List.range 4096).all (fun a => (bAnd .i64 (a : Int) 63 == (a : Int) % 64) && (shr .i64 (a : Int) 6 == (a : Int) / 64)) = true := by kernel_rfl
theorem tab_facts {k : Int} (h0 : 0 ≤ k) (h1 : k < 64) : 64 ≤ tab k ∧ tab k ≤ 255 ∧ tab k % 64 = k ∧ six_at.m k = some (tab k) := by
  have := allN (N := 64) (p := fun k => decide (64 ≤ tab k) && decide (tab k ≤ 255) && (tab k % 64 == k) && (six_at.m k == some (tab k))) tab_all h0 h1
  simp only [Bool.and_eq_true, decide_eq_true_eq, beq_iff_eq] at this
  exact ⟨this.1.1.1, this.1.1.2, this.1.2, this.2⟩
theorem get_eq {b : Int} (h0 : 0 ≤ b) (h1 : b ≤ 255) : six_Get.m b = some (if okc b then (b % 64, GoErr.nil) else (0, GoErr.no 3)) := by
  have := allN (N := 256) (p := fun b => six_Get.m b == some (if okc b then (b % 64, GoErr.nil) else (0, GoErr.no 3))) get_all h0 (by omega)
  simpa only [beq_iff_eq] using this
theorem or6 {a b : Int} (h0 : 0 ≤ a) (h1 : a < 64) (h2 : 0 ≤ b) (h3 : b < 64) : bOr .i64 (shl .i64 a 6) b = 64 * a + b := by
  have := allNM (N := 64) (M := 64) (p := fun a b => bOr .i64 (shl .i64 a 6) b == 64 * a + b) or6_all h0 h1 h2 h3
  simpa only [beq_iff_eq] using this
theorem or8 {a b : Int} (h0 : 0 ≤ a) (h1 : a < 64) (h2 : 0 ≤ b) (h3 : b < 256) : bOr .i64 (shl .i64 a 8) b = 256 * a + b := by
  have := allNM (N := 64) (M := 256) (p := fun a b => bOr .i64 (shl .i64 a 8) b == 256 * a + b) or8_all h0 h1 h2 h3
  simpa only [beq_iff_eq] using this
theorem and6 {a : Int} (h0 : 0 ≤ a) (h1 : a < 4096) : bAnd .i64 a 63 = a % 64 ∧ shr .i64 a 6 = a / 64 := by
  have := allN (N := 4096) (p := fun a => (bAnd .i64 a 63 == a % 64) && (shr .i64 a 6 == a / 64)) and6_all h0 h1
  simpa only [Bool.and_eq_true, beq_iff_eq] using this
theorem spot_eq (a : Int) (e : GoErr) : addr_spot.m a e = some (.spot a e) := rfl
theorem long_eq (n : Int) : addr_Long.m n = some (decide (n > 4096)) := rfl
theorem sized_eq (n : Int) : addr_sized.m n = some (decide (1 ≤ n ∧ n ≤ 16383)) := by
  unfold addr_sized.m
  by_cases h : n ≥ 1
  · rw [if_pos h]; congr 1; simp; omega
  · rw [if_neg h]; congr 1; simp; omega
def rd6 (a b : Int) : Int × GoErr :=
  if okc a then (if okc b then (64 * (a % 64) + b % 64, GoErr.nil) else (0, .spot 1 (.no 3))) else (0, .spot 0 (.no 3))
theorem short_eq {l : List Int} {a b : Int} (hl : 2 ≤ (l.length : Int)) (ha : at_ l 0 = a) (hb : at_ l 1 = b) (a0 : 0 ≤ a) (a1 : a ≤ 255) (b0 : 0 ≤ b) (b1 : b ≤ 255) : addr_short.m KK l = some (rd6 a b) := by
  have step : ∀ k, addr_short.l1.m KK l (k + 3) 0 0 = some (if okc a then (if okc b then .inr (64 * (a % 64) + b % 64) else .inl (0, .spot 1 (.no 3))) else .inl (0, .spot 0 (.no 3))) := by
    intro k
    rw [addr_short.l1.m]
    simp only [letJ, show (0 : Int) < 2 from by decide, if_true, cond_true, Int.le_refl, if_pos (show (0 : Int) < (l.length : Int) by omega), ha, get_eq a0 a1, Option.bind_some]
    by_cases ok1 : okc a = true
    · simp only [ok1, if_true]
      rw [addr_short.l1.m]
      have e1 : w64 (0 + 1) = 1 := by decide
      simp only [e1, letJ, show (1 : Int) < 2 from by decide, if_true, cond_true, show (0 : Int) ≤ 1 from by decide, if_pos (show (1 : Int) < (l.length : Int) by omega), hb, get_eq b0 b1, Option.bind_some]
      by_cases ok2 : okc b = true
      · simp only [ok2, if_true]
        rw [addr_short.l1.m]
        have e2 : w64 (1 + 1) = 2 := by decide
        have e3 : bOr .i64 (shl .i64 0 6) (a % 64) = a % 64 := by rw [or6 (by omega) (by omega) (by omega) (by omega)]; omega
        simp only [e2, letJ, show ¬ (2 : Int) < 2 from by decide, if_false, cond_false, e3, or6 (show 0 ≤ a % 64 by omega) (show a % 64 < 64 by omega) (show 0 ≤ b % 64 by omega) (show b % 64 < 64 by omega)]
      · simp [ok2, spot_eq]
    · simp [ok1, spot_eq]
  unfold addr_short.m
  rw [show KK = 1048573 + 3 from rfl, step 1048573]
  unfold rd6
  by_cases ok1 : okc a = true <;> by_cases ok2 : okc b = true <;> simp [ok1, ok2]
def getOf (l : List Int) (n : Int) : Int × GoErr :=
  if 1 ≤ n ∧ n ≤ 16383 then
    if (l.length : Int) < 2 then (0, .no 2)
    else if n > 4096 then
      if at_ l 0 > 63 then (0, .spot 0 (.no 3))
      else if 256 * at_ l 0 + at_ l 1 ≥ n then (0, .no 4) else (256 * at_ l 0 + at_ l 1, .nil)
    else if (rd6 (at_ l 0) (at_ l 1)).2 = .nil then
      if (rd6 (at_ l 0) (at_ l 1)).1 ≥ n then (0, .no 4) else ((rd6 (at_ l 0) (at_ l 1)).1, .nil)
    else (0, (rd6 (at_ l 0) (at_ l 1)).2)
  else (0, .no 1)
theorem at_mem {l : List Int} {i : Int} (h0 : 0 ≤ i) (h1 : i < (l.length : Int)) : at_ l i ∈ l := by
  rw [at_eq (hi := by omega)]; exact List.getElem_mem _
theorem at_u8 {l : List Int} (h : ∀ y ∈ l, Wf .u8 y) {i : Int} (h0 : 0 ≤ i) (h1 : i < (l.length : Int)) : 0 ≤ at_ l i ∧ at_ l i ≤ 255 := b_u8 (h _ (at_mem h0 h1))
theorem get04 {l : List Int} {n : Int} (h : ∀ y ∈ l, Wf .u8 y) : addr_Get.m KK l n = some (getOf l n) := by
  unfold addr_Get.m getOf
  rw [sized_eq, Option.bind_some]
  by_cases hn : 1 ≤ n ∧ n ≤ 16383
  · simp only [hn, and_self, decide_true, cond_true, if_true]
    by_cases hl : (l.length : Int) < 2
    · simp only [hl, if_true]
    · have a := at_u8 h (i := 0) (by omega) (by omega)
      have b := at_u8 h (i := 1) (by omega) (by omega)
      simp only [hl, if_false, if_pos (show (0 : Int) < (l.length : Int) by omega), if_pos (show (1 : Int) < (l.length : Int) by omega), letJ, long_eq, Option.bind_some]
      by_cases hlong : n > 4096
      · simp only [hlong, decide_true, cond_true, cond_false, if_true]
        by_cases h63 : at_ l 0 > 63
        · simp only [h63, if_true, spot_eq, Option.bind_some]
        · rw [w64_id (by omega) (by omega), w64_id (by omega) (by omega), or8 (by omega) (by omega) (by omega) (by omega)]
          simp only [h63, if_false]
          split <;> rfl
      · simp only [hlong, decide_false, cond_true, cond_false, if_false]
        rw [short_eq (by omega) rfl rfl a.1 a.2 b.1 b.2, Option.bind_some]
        split
        · split <;> rfl
        · rfl
  · simp only [hn, decide_false, cond_false, if_false]
theorem okc_iff (b : Int) : okc b = true ∨ okc b = false := by cases okc b <;> simp
theorem put6_eq {k : Int} (h0 : 0 ≤ k) (h1 : k < 64) : six_Put.m k = some (tab k, GoErr.nil) := by
  unfold six_Put.m
  rw [if_neg (by omega), if_neg (by omega), (tab_facts h0 h1).2.2.2, Option.bind_some]
def putOf (a n : Int) : List Int := if n > 4096 then [a / 256, a % 256] else [tab (a / 64), tab (a % 64)]
theorem put04 {a n : Int} (h1 : 1 ≤ n) (h2 : n ≤ 16383) (h3 : 0 ≤ a) (h4 : a < n) : addr_Put.m KK a n = some (putOf a n, GoErr.nil) := by
  unfold addr_Put.m putOf
  rw [sized_eq]
  simp only [letJ, Option.bind_some, show (1 ≤ n ∧ n ≤ 16383) from ⟨h1, h2⟩, decide_true, and_self, cond_true, cond_false, if_neg (show ¬ a < 0 by omega), if_neg (show ¬ a ≥ n by omega), long_eq]
  by_cases hl : n > 4096
  · simp only [hl, decide_true, cond_true, if_true]
    have e : shr .i64 a 8 = a / 256 := by
      unfold shr
      rw [show ((2 : Int) ^ (min (8 : Int).toNat IntKind.i64.bits)) = 256 from by decide, Int.fdiv_eq_ediv_of_nonneg _ (by decide)]
    rw [e, w8_mod, w8_mod, Int.emod_eq_of_lt (by omega) (by omega)]
  · simp only [hl, decide_false, cond_false, if_false]
    obtain ⟨e1, e2⟩ := and6 h3 (show a < 4096 by omega)
    have step : addr_Put.l1.m KK a (1048573 + 3) 0 (List.replicate 2 (0 : Int)) = some (.inr [tab (a / 64), tab (a % 64)]) := by
      rw [addr_Put.l1.m]
      simp only [letJ, e1, e2, List.length_cons, List.length_nil, show (0 : Int) < ((0 + 1 + 1 : Nat) : Int) from by decide, if_true, cond_true, Int.le_refl, show at_ [a / 64, a % 64] 0 = a / 64 from rfl, put6_eq (k := a / 64) (by omega) (by omega), Option.bind_some, show (0 : Int) < 2 from by decide]
      rw [addr_Put.l1.m]
      simp only [letJ, e1, e2, show w64 (0 + 1) = 1 from by decide, List.length_cons, List.length_nil, show (1 : Int) < ((0 + 1 + 1 : Nat) : Int) from by decide, if_true, cond_true, show (0 : Int) ≤ 1 from by decide, show at_ [a / 64, a % 64] 1 = a % 64 from rfl, put6_eq (k := a % 64) (by omega) (by omega), Option.bind_some, show (1 : Int) < 2 from by decide]
      rw [addr_Put.l1.m]
      simp only [letJ, e1, e2, show w64 (1 + 1) = 2 from by decide, List.length_cons, List.length_nil, show ¬ (2 : Int) < ((0 + 1 + 1 : Nat) : Int) from by decide, if_false, cond_false]
      rfl
    rw [show KK = 1048573 + 3 from rfl, step, Option.bind_some]
theorem okc_tab {k : Int} (h0 : 0 ≤ k) (h1 : k < 64) : okc (tab k) = true := by
  unfold okc
  rw [(tab_facts h0 h1).2.2.1, beq_self_eq_true]
theorem get_put {a n : Int} (h1 : 1 ≤ n) (h2 : n ≤ 16383) (h3 : 0 ≤ a) (h4 : a < n) (more : List Int) : getOf (putOf a n ++ more) n = (a, .nil) := by
  unfold getOf putOf
  rw [if_pos ⟨h1, h2⟩]
  by_cases hl : n > 4096
  · simp only [hl, if_true, List.cons_append, List.nil_append, List.length_cons, show at_ (a / 256 :: a % 256 :: more) 0 = a / 256 from rfl, show at_ (a / 256 :: a % 256 :: more) 1 = a % 256 from rfl]
    rw [if_neg (by omega), if_neg (by omega), if_neg (by omega)]
    congr 1; omega
  · have t1 := tab_facts (k := a / 64) (by omega) (by omega)
    have t2 := tab_facts (k := a % 64) (by omega) (by omega)
    simp only [hl, if_false, List.cons_append, List.nil_append, List.length_cons, show at_ (tab (a / 64) :: tab (a % 64) :: more) 0 = tab (a / 64) from rfl, show at_ (tab (a / 64) :: tab (a % 64) :: more) 1 = tab (a % 64) from rfl]
    unfold rd6
    rw [if_neg (by omega)]
    simp only [okc_tab (k := a / 64) (by omega) (by omega), okc_tab (k := a % 64) (by omega) (by omega), if_true, t1.2.2.1, t2.2.2.1]
    rw [if_neg (by omega)]
    congr 1; omega
theorem put_get {l : List Int} {n : Int} (hl : l.length = 2) (h : ∀ y ∈ l, Wf .u8 y) (h1 : 1 ≤ n) (h2 : n ≤ 16383) :
    ((getOf l n).2 = .nil ∧ 0 ≤ (getOf l n).1 ∧ (getOf l n).1 < n ∧ putOf (getOf l n).1 n = l) ∨ ((getOf l n).2 ≠ .nil ∧ (getOf l n).1 = 0) := by
  obtain ⟨a, b, rfl⟩ : ∃ a b, l = [a, b] := by
    match l, hl with
    | [a, b], _ => exact ⟨a, b, rfl⟩
  have ha := b_u8 (h a (by simp))
  have hb := b_u8 (h b (by simp))
  unfold getOf
  rw [if_pos ⟨h1, h2⟩, if_neg (by simp)]
  simp only [show at_ [a, b] 0 = a from rfl, show at_ [a, b] 1 = b from rfl]
  unfold putOf
  by_cases hl : n > 4096
  · simp only [hl, if_true]
    by_cases h63 : a > 63
    · simp [h63]
    · simp only [h63, if_false]
      by_cases hge : 256 * a + b ≥ n
      · simp [hge]
      · simp only [hge, if_false]
        left
        refine ⟨trivial, by omega, by omega, ?_⟩
        rw [show (256 * a + b) / 256 = a by omega, show (256 * a + b) % 256 = b by omega]
  · simp only [hl, if_false]
    unfold rd6
    rcases okc_iff a with oa | oa <;> rcases okc_iff b with ob | ob <;> simp only [oa, ob, if_true, if_false, Bool.false_eq_true]
    · by_cases hge : 64 * (a % 64) + b % 64 ≥ n
      · simp [hge]
      · simp only [hge, if_false]
        left
        refine ⟨trivial, by omega, by omega, ?_⟩
        unfold okc at oa ob
        rw [beq_iff_eq] at oa ob
        rw [show (64 * (a % 64) + b % 64) / 64 = a % 64 by omega, show (64 * (a % 64) + b % 64) % 64 = b % 64 by omega, oa, ob]
    · simp
    · simp
    · simp
theorem put_u8 {a n : Int} (h2 : n ≤ 16383) (h3 : 0 ≤ a) (h4 : a < n) : ∀ y ∈ putOf a n, Wf .u8 y := by
  have wf : ∀ y : Int, 0 ≤ y → y ≤ 255 → Wf .u8 y := by
    intro y h0 h1
    unfold Wf
    simp [Lit.wf, IntKind.min, IntKind.max, IntKind.signed, IntKind.bits]
    omega
  unfold putOf
  intro y hy
  split at hy <;> simp only [List.mem_cons, List.not_mem_nil, or_false] at hy <;> rcases hy with rfl | rfl
  · exact wf _ (by omega) (by omega)
  · exact wf _ (by omega) (by omega)
  · have t := tab_facts (k := a / 64) (by omega) (by omega); exact wf _ (by omega) (by omega)
  · have t := tab_facts (k := a % 64) (by omega) (by omega); exact wf _ (by omega) (by omega)
theorem put_len (a n : Int) : (putOf a n).length = 2 := by unfold putOf; split <;> rfl
end Go.Proofs.YtfkdbplnjlkcdaaGreatDoor.Sx
