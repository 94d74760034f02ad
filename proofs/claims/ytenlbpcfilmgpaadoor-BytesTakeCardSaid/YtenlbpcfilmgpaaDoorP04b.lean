/- The plain part of the laws of package 04: closed forms, and AddrGets. -/
import Derived.Test.YtenlbpcfilmgpaaDoorP04a
import Derived.Test.YtenlbpcfilmgpaaDoorG2
namespace Go.Proofs.YtenlbpcfilmgpaaDoor.Sx
open Go

theorem spot_eq (a : Int) (e : GoErr) : addr_spot.m a e = some (.spot a e) := rfl
theorem long_eq (n : Int) : addr_Long.m n = some (decide (n > 4096)) := rfl
theorem sized_eq (n : Int) : addr_sized.m n = some (decide (1 ≤ n ∧ n ≤ 16383)) := by
  unfold addr_sized.m
  by_cases h : n ≥ 1
  · rw [if_pos h]; congr 1; simp; omega
  · rw [if_neg h]; congr 1; simp; omega

/-- Two letters, read. -/
def rd6 (a b : Int) : Int × GoErr :=
  if okc a then (if okc b then (64 * (a % 64) + b % 64, GoErr.nil) else (0, .spot 1 (.no 3))) else (0, .spot 0 (.no 3))

theorem shl0 : shl .i64 0 6 = 0 := by decide
theorem short_eq {l : List Int} {a b : Int} (hl : 2 ≤ (l.length : Int)) (ha : at_ l 0 = a) (hb : at_ l 1 = b) (a0 : 0 ≤ a) (a1 : a ≤ 255) (b0 : 0 ≤ b) (b1 : b ≤ 255) : addr_short.m KK l = some (rd6 a b) := by
  have step : ∀ k, addr_short.l1.m KK l (k + 3) 0 0 = some (if okc a then (if okc b then .inr (64 * (a % 64) + b % 64) else .inl (0, .spot 1 (.no 3))) else .inl (0, .spot 0 (.no 3))) := by
    intro k
    rw [addr_short.l1.m]
    simp only [letJ, show (0 : Int) < 2 from by decide, if_true, cond_true, Int.le_refl, if_pos (show (0 : Int) < (l.length : Int) by omega), ha, get_eq a0 a1, Option.bind_some]
    by_cases ok1 : okc a = true
    · simp only [ok1, if_true]
      rw [addr_short.l1.m]
      have e1 : w64 (0 + 1) = 1 := by decide
      simp only [e1, letJ, show (1 : Int) < 2 from by decide, if_true, cond_true, show (0 : Int) ≤ 1 from by decide, if_pos (show (1 : Int) < (l.length : Int) by omega), hb, get_eq b0 b1, Option.bind_some]
      by_cases ok2 : okc b = true
      · simp only [ok2, if_true]
        rw [addr_short.l1.m]
        have e2 : w64 (1 + 1) = 2 := by decide
        have e3 : bOr .i64 (shl .i64 0 6) (a % 64) = a % 64 := by rw [or6 (by omega) (by omega) (by omega) (by omega)]; omega
        simp only [e2, letJ, show ¬ (2 : Int) < 2 from by decide, if_false, cond_false, e3, or6 (show 0 ≤ a % 64 by omega) (show a % 64 < 64 by omega) (show 0 ≤ b % 64 by omega) (show b % 64 < 64 by omega)]
      · simp [ok2, spot_eq]
    · simp [ok1, spot_eq]
  unfold addr_short.m
  rw [show KK = 1048573 + 3 from rfl, step 1048573]
  unfold rd6
  by_cases ok1 : okc a = true <;> by_cases ok2 : okc b = true <;> simp [ok1, ok2]

/-- What addr.Get answers. -/
def getOf (l : List Int) (n : Int) : Int × GoErr :=
  if 1 ≤ n ∧ n ≤ 16383 then
    if (l.length : Int) < 2 then (0, .no 2)
    else if n > 4096 then
      if at_ l 0 > 63 then (0, .spot 0 (.no 3))
      else if 256 * at_ l 0 + at_ l 1 ≥ n then (0, .no 4) else (256 * at_ l 0 + at_ l 1, .nil)
    else if (rd6 (at_ l 0) (at_ l 1)).2 = .nil then
      if (rd6 (at_ l 0) (at_ l 1)).1 ≥ n then (0, .no 4) else ((rd6 (at_ l 0) (at_ l 1)).1, .nil)
    else (0, (rd6 (at_ l 0) (at_ l 1)).2)
  else (0, .no 1)

theorem at_mem {l : List Int} {i : Int} (h0 : 0 ≤ i) (h1 : i < (l.length : Int)) : at_ l i ∈ l := by
  rw [at_eq (hi := by omega)]; exact List.getElem_mem _
theorem at_u8 {l : List Int} (h : ∀ y ∈ l, Wf .u8 y) {i : Int} (h0 : 0 ≤ i) (h1 : i < (l.length : Int)) : 0 ≤ at_ l i ∧ at_ l i ≤ 255 := b_u8 (h _ (at_mem h0 h1))

theorem get04 {l : List Int} {n : Int} (h : ∀ y ∈ l, Wf .u8 y) : addr_Get.m KK l n = some (getOf l n) := by
  unfold addr_Get.m getOf
  rw [sized_eq, Option.bind_some]
  by_cases hn : 1 ≤ n ∧ n ≤ 16383
  · simp only [hn, and_self, decide_true, cond_true, if_true]
    by_cases hl : (l.length : Int) < 2
    · simp only [hl, if_true]
    · have a := at_u8 h (i := 0) (by omega) (by omega)
      have b := at_u8 h (i := 1) (by omega) (by omega)
      simp only [hl, if_false, if_pos (show (0 : Int) < (l.length : Int) by omega), if_pos (show (1 : Int) < (l.length : Int) by omega), letJ, long_eq, Option.bind_some]
      by_cases hlong : n > 4096
      · simp only [hlong, decide_true, cond_true, cond_false, if_true]
        by_cases h63 : at_ l 0 > 63
        · simp only [h63, if_true, spot_eq, Option.bind_some]
        · rw [w64_id (by omega) (by omega), w64_id (by omega) (by omega), or8 (by omega) (by omega) (by omega) (by omega)]
          simp only [h63, if_false]
          split <;> rfl
      · simp only [hlong, decide_false, cond_true, cond_false, if_false]
        rw [short_eq (by omega) rfl rfl a.1 a.2 b.1 b.2, Option.bind_some]
        split
        · split <;> rfl
        · rfl
  · simp only [hn, decide_false, cond_false, if_false]

theorem okc_iff (b : Int) : okc b = true ∨ okc b = false := by cases okc b <;> simp

theorem ref04 {l : List Int} {n : Int} (h : ∀ y ∈ l, Wf .u8 y) : shutterref04_Get.m KK l n = some ((getOf l n).1, codeOf (getOf l n).2, whereOf (getOf l n).2) := by
  unfold shutterref04_Get.m getOf
  by_cases h1 : n < 1
  · rw [if_pos h1, if_neg (by omega)]; rfl
  · rw [if_neg h1]
    by_cases h2 : n > 16383
    · rw [if_pos h2, if_neg (by omega)]; rfl
    · rw [if_neg h2, if_pos (show 1 ≤ n ∧ n ≤ 16383 by omega)]
      by_cases hl : (l.length : Int) < 2
      · simp only [hl, if_true]; rfl
      · have a := at_u8 h (i := 0) (by omega) (by omega)
        have b := at_u8 h (i := 1) (by omega) (by omega)
        simp only [hl, if_false, if_pos (show (0 : Int) < (l.length : Int) by omega), if_pos (show (1 : Int) < (l.length : Int) by omega), letJ]
        by_cases h3 : n ≤ 4096
        · rw [if_pos h3, if_neg (show ¬ n > 4096 by omega)]
          simp only [cond_true, refget_eq a.1 a.2, refget_eq b.1 b.2, Option.bind_some]
          unfold rd6
          rcases okc_iff (at_ l 0) with oa | oa <;> rcases okc_iff (at_ l 1) with ob | ob <;> simp only [oa, ob, if_true, if_false, Bool.false_eq_true]
          · rw [if_neg (show ¬ at_ l 0 % 64 < 0 by omega), if_neg (show ¬ at_ l 1 % 64 < 0 by omega)]
            rw [w64_id (n := 64 * (at_ l 0 % 64)) (by omega) (by omega), w64_id (n := 64 * (at_ l 0 % 64) + at_ l 1 % 64) (by omega) (by omega)]
            split <;> rfl
          · rw [if_neg (show ¬ at_ l 0 % 64 < 0 by omega)]; rfl
          · rfl
          · rfl
        · rw [if_neg h3, if_pos (show n > 4096 by omega)]
          simp only [cond_false]
          by_cases h63 : at_ l 0 > 63
          · simp only [h63, if_true]; rfl
          · rw [w64_id (n := at_ l 0) (by omega) (by omega), w64_id (n := at_ l 1) (by omega) (by omega), w64_id (n := 256 * at_ l 0) (by omega) (by omega), w64_id (by omega) (by omega)]
            simp only [h63, if_false]
            split <;> rfl

theorem AddrGets_true (x0 : List Int) (x1 : Int) (w0 : ∀ y ∈ x0, Wf .u8 y) (_ : x0.length ≤ maxLen) (_ : Wf .i64 x1) : shutterlaw04_AddrGets.m KK x0 x1 = some true := by
  unfold shutterlaw04_AddrGets.m
  rw [awake04, Option.bind_some, cond_true]
  split
  · rfl
  · rw [get04 w0, Option.bind_some, ref04 w0, Option.bind_some]
    simp [api_Code.m, api_Where.m]
end Go.Proofs.YtenlbpcfilmgpaaDoor.Sx
