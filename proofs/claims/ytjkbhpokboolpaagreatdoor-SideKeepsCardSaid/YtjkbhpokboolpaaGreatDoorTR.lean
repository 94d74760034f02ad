import Derived.Test.YtjkbhpokboolpaaGreatDoorPM
namespace Go.Proofs.YtjkbhpokboolpaaGreatDoor.Sx
open Go
set_option maxRecDepth 100000
theorem appk {α : Type} {l m : List α} (h : l.length + m.length ≤ 1099511627776) : app l m = some (l ++ m) := by unfold app; rw [if_pos (by unfold Lim; exact h)]
def nxt (n y : Int) : Int := if y + 1 = n then 0 else y + 1
def prv (n y : Int) : Int := if y = 0 then n - 1 else y - 1
theorem prv_in {n y : Int} (h0 : 0 ≤ y) (h1 : y < n) : 0 ≤ prv n y ∧ prv n y < n := by unfold prv; split <;> omega
theorem tmod_once {a n : Int} (h0 : n ≤ a) (h1 : a < n + n) (hn : 0 < n) : Int.tmod a n = a - n := by
  rw [Int.tmod_eq_emod_of_nonneg (by omega), show a = (a - n) + n by omega, Int.add_emod_right, Int.emod_eq_of_lt (by omega) (by omega)]; omega
theorem on_prev {s : api_Screen} (hl : s.Cells.length ≤ 200) {y : Int} (h0 : 0 ≤ y) (h1 : y < (s.Cells.length : Int)) : grid_On.m s y (-1) = some (prv s.Cells.length y) := by
  unfold grid_On.m prv
  rw [if_pos (by omega)]
  generalize hn : (s.Cells.length : Int) = n at *
  by_cases n1 : n = 1
  · subst n1
    obtain rfl : y = 0 := by omega
    rfl
  · rw [Int.neg_tmod, Int.tmod_eq_of_lt (a := 1) (by omega) (by omega), w64_id (n := y + -1) (by omega) (by omega), w64_id (by omega) (by omega)]
    by_cases h : y = 0
    · rw [if_pos h, h, Int.tmod_eq_of_lt (by omega) (by omega)]; congr 1; omega
    · rw [if_neg h, tmod_once (by omega) (by omega) (by omega)]; congr 1; omega
def ring (f : Int → Int) : Nat → Int → List Int
  | 0, _ => []
  | k + 1, y => y :: ring f k (f y)
theorem ring_in {f : Int → Int} {n : Int} (hf : ∀ y, 0 ≤ y → y < n → 0 ≤ f y ∧ f y < n) : ∀ (k : Nat) (y : Int), 0 ≤ y → y < n → ∀ x ∈ ring f k y, 0 ≤ x ∧ x < n
  | 0, _, _, _, x, hx => by cases hx
  | k + 1, y, h0, h1, x, hx => by
    rcases List.mem_cons.1 hx with rfl | hx
    · exact ⟨h0, h1⟩
    · exact ring_in hf k (f y) (hf y h0 h1).1 (hf y h0 h1).2 x hx
theorem xs_ring {s : api_Screen} {sg : Int} {f : Int → Int} (hon : ∀ y, 0 ≤ y → y < (s.Cells.length : Int) → grid_On.m s y sg = some (f y)) (hf : ∀ y, 0 ≤ y → y < (s.Cells.length : Int) → 0 ≤ f y ∧ f y < (s.Cells.length : Int)) :
    ∀ (k : Nat) (y : Int), 0 ≤ y → y < (s.Cells.length : Int) → field_round.xs s sg k y = some (ring f k y)
  | 0, _, _, _ => rfl
  | k + 1, y, h0, h1 => by
    rw [field_round.xs, hon y h0 h1, Option.bind_some, xs_ring hon hf k (f y) (hf y h0 h1).1 (hf y h0 h1).2, Option.bind_some, ring]
theorem round_prev {s : api_Screen} (hl : s.Cells.length ≤ 200) {y : Int} (h0 : 0 ≤ y) (h1 : y < (s.Cells.length : Int)) : field_round.m s y (-1) = some (ring (prv s.Cells.length) s.Cells.length (prv s.Cells.length y)) := by
  unfold field_round.m
  rw [if_pos (by omega), on_prev hl h0 h1, Option.bind_some]
  exact xs_ring (fun _ a b => on_prev hl a b) (fun _ a b => prv_in a b) _ _ (prv_in h0 h1).1 (prv_in h0 h1).2
def isF (s : api_Screen) (i : Int) : Bool := (at_ s.Cells i).Field
def isC (s : api_Screen) (i : Int) : Bool := !(at_ s.Cells i).Field
def cellsOf (s : api_Screen) (b : Int) : List Int := (ring (nxt s.Cells.length) s.Cells.length (nxt s.Cells.length b)).takeWhile (isC s)
def ltrS (s : api_Screen) (l : List Int) : List Int := (l.map fun i => (at_ s.Cells i).Char).filter (· != 0)
theorem ltrS_len (s : api_Screen) (l : List Int) : (ltrS s l).length ≤ l.length := by
  unfold ltrS
  have := List.length_filter_le (fun (x : Int) => x != 0) (l.map fun i => (at_ s.Cells i).Char)
  rw [List.length_map] at this; exact this
theorem ltrS_cons (s : api_Screen) (i : Int) (l : List Int) : ltrS s (i :: l) = if (at_ s.Cells i).Char = 0 then ltrS s l else (at_ s.Cells i).Char :: ltrS s l := by
  unfold ltrS
  rw [List.map_cons, List.filter_cons]
  by_cases h : (at_ s.Cells i).Char = 0
  · rw [if_pos h, h]; rfl
  · rw [if_neg h, if_pos (by simpa using h)]
theorem lettersS_loop {s : api_Screen} {l : List Int} (hl : l.length ≤ 200) (hin : ∀ x ∈ l, 0 ≤ x ∧ x < (s.Cells.length : Int) ∧ isC s x = true) : ∀ (k : Nat) (acc : List Int) (i : Int), 0 ≤ i → i ≤ (l.length : Int) → (l.length : Int) - i < (k : Int) → acc.length ≤ i →
    read_letters.l1.m KK s l k acc i = some (acc ++ ltrS s (l.drop i.toNat)) := by
  intro k
  induction k with
  | zero => intro acc i _ _ h; omega
  | succ k ih =>
    intro acc i i0 i1 hk ha
    rw [read_letters.l1.m]
    simp only [letJ]
    by_cases h3 : i < (l.length : Int)
    · have hm := hin _ (at_mem i0 h3)
      have hF : (at_ s.Cells (at_ l i)).Field = false := by
        have := hm.2.2
        unfold isC at this
        cases h : (at_ s.Cells (at_ l i)).Field with
        | true => rw [h] at this; cases this
        | false => rfl
      rw [if_pos h3, cond_true, if_pos i0, if_pos h3, if_pos hm.1, if_pos hm.2.1, hF, cond_false, drop_at i0 h3, ltrS_cons, w64_id (by omega) (by omega)]
      by_cases hc : (at_ s.Cells (at_ l i)).Char = 0
      · rw [if_pos hc, if_pos hc, ih acc (i + 1) (by omega) (by omega) (by omega) (by omega)]
      · rw [if_neg hc, if_neg hc, appk (by simp; omega), Option.bind_some, ih _ (i + 1) (by omega) (by omega) (by omega) (by simp; omega)]
        simp
    · rw [if_neg h3, cond_false, List.drop_eq_nil_of_le (by omega)]
      simp [ltrS]
theorem lettersS_eq {s : api_Screen} {l : List Int} (hl : l.length ≤ 200) (hin : ∀ x ∈ l, 0 ≤ x ∧ x < (s.Cells.length : Int) ∧ isC s x = true) : read_letters.m KK s l = some (ltrS s l) := by
  unfold read_letters.m
  rw [lettersS_loop hl hin KK [] 0 (by omega) (by omega) (by unfold KK; omega) (by simp), Option.bind_some]
  rfl
def ups : Nat → Int → List Int
  | 0, _ => []
  | m + 1, i => i :: ups m (i + 1)
theorem ups_len : ∀ (m : Nat) (i : Int), (ups m i).length = m
  | 0, _ => rfl
  | m + 1, i => by rw [ups, List.length_cons, ups_len m]
theorem ups_in : ∀ (m : Nat) (i : Int), ∀ x ∈ ups m i, i ≤ x ∧ x < i + m
  | 0, _, x, h => by cases h
  | m + 1, i, x, h => by
    rcases List.mem_cons.1 h with rfl | h
    · omega
    · have := ups_in m (i + 1) x h; omega
def isM (s : api_Screen) (i : Int) : Bool := (at_ s.Cells i).Attr.Modified
def begs (s : api_Screen) : List Int := (ups s.Cells.length 0).filter (isF s)
def ent (s : api_Screen) (b : Int) : api_Entry := ⟨nxt s.Cells.length b, ltrS s (cellsOf s b)⟩
def ents (s : api_Screen) : List api_Entry := ((begs s).filter (isM s)).map (ent s)
def anyF (s : api_Screen) (m : Nat) (i : Int) : Bool := (ups m i).any (isF s)
def fmt (s : api_Screen) : Bool := anyF s s.Cells.length 0
end Go.Proofs.YtjkbhpokboolpaaGreatDoor.Sx
