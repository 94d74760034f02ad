/- Plain facts on package read: the modified fields of a screen. -/
import Derived.Test.YtfbcjibdgicaoaaGreatDoorRD
namespace Go.Proofs.YtfbcjibdgicaoaaGreatDoor.Sx
open Go
set_option maxRecDepth 100000

/-! ### Places around a screen -/
def nxt (n y : Int) : Int := if y + 1 = n then 0 else y + 1
def prv (n y : Int) : Int := if y = 0 then n - 1 else y - 1
theorem nxt_in {n y : Int} (h0 : 0 ≤ y) (h1 : y < n) : 0 ≤ nxt n y ∧ nxt n y < n := by unfold nxt; split <;> omega
theorem prv_in {n y : Int} (h0 : 0 ≤ y) (h1 : y < n) : 0 ≤ prv n y ∧ prv n y < n := by unfold prv; split <;> omega
theorem tmod_once {a n : Int} (h0 : n ≤ a) (h1 : a < n + n) (hn : 0 < n) : Int.tmod a n = a - n := by
  rw [Int.tmod_eq_emod_of_nonneg (by omega), show a = (a - n) + n by omega, Int.add_emod_right, Int.emod_eq_of_lt (by omega) (by omega)]; omega
theorem tmod_twice {n : Int} (hn : 0 < n) : Int.tmod (n + n) n = 0 := by
  rw [Int.tmod_eq_emod_of_nonneg (by omega), Int.add_emod_right, Int.emod_self]
theorem on_next {s : api_Screen} (hl : s.Cells.length ≤ 200) {y : Int} (h0 : 0 ≤ y) (h1 : y < (s.Cells.length : Int)) : grid_On.m s y 1 = some (nxt s.Cells.length y) := by
  unfold grid_On.m nxt
  rw [if_pos (by omega)]
  generalize hn : (s.Cells.length : Int) = n at *
  by_cases n1 : n = 1
  · subst n1
    obtain rfl : y = 0 := by omega
    rfl
  · rw [Int.tmod_eq_of_lt (a := 1) (by omega) (by omega), w64_id (n := y + 1) (by omega) (by omega), w64_id (by omega) (by omega)]
    by_cases h : y + 1 = n
    · rw [if_pos h, h, tmod_twice (by omega)]
    · rw [if_neg h, tmod_once (by omega) (by omega) (by omega)]; congr 1; omega
theorem on_prev {s : api_Screen} (hl : s.Cells.length ≤ 200) {y : Int} (h0 : 0 ≤ y) (h1 : y < (s.Cells.length : Int)) : grid_On.m s y (-1) = some (prv s.Cells.length y) := by
  unfold grid_On.m prv
  rw [if_pos (by omega)]
  generalize hn : (s.Cells.length : Int) = n at *
  by_cases n1 : n = 1
  · subst n1
    obtain rfl : y = 0 := by omega
    rfl
  · rw [Int.neg_tmod, Int.tmod_eq_of_lt (a := 1) (by omega) (by omega), w64_id (n := y + -1) (by omega) (by omega), w64_id (by omega) (by omega)]
    by_cases h : y = 0
    · rw [if_pos h, h, Int.tmod_eq_of_lt (by omega) (by omega)]; congr 1; omega
    · rw [if_neg h, tmod_once (by omega) (by omega) (by omega)]; congr 1; omega
def ring (f : Int → Int) : Nat → Int → List Int
  | 0, _ => []
  | k + 1, y => y :: ring f k (f y)
theorem ring_len (f : Int → Int) : ∀ (k : Nat) (y : Int), (ring f k y).length = k
  | 0, _ => rfl
  | k + 1, y => by rw [ring, List.length_cons, ring_len f k]
theorem ring_in {f : Int → Int} {n : Int} (hf : ∀ y, 0 ≤ y → y < n → 0 ≤ f y ∧ f y < n) : ∀ (k : Nat) (y : Int), 0 ≤ y → y < n → ∀ x ∈ ring f k y, 0 ≤ x ∧ x < n
  | 0, _, _, _, x, hx => by cases hx
  | k + 1, y, h0, h1, x, hx => by
    rcases List.mem_cons.1 hx with rfl | hx
    · exact ⟨h0, h1⟩
    · exact ring_in hf k (f y) (hf y h0 h1).1 (hf y h0 h1).2 x hx
theorem xs_ring {s : api_Screen} {sg : Int} {f : Int → Int} (hon : ∀ y, 0 ≤ y → y < (s.Cells.length : Int) → grid_On.m s y sg = some (f y)) (hf : ∀ y, 0 ≤ y → y < (s.Cells.length : Int) → 0 ≤ f y ∧ f y < (s.Cells.length : Int)) :
    ∀ (k : Nat) (y : Int), 0 ≤ y → y < (s.Cells.length : Int) → field_round.xs s sg k y = some (ring f k y)
  | 0, _, _, _ => rfl
  | k + 1, y, h0, h1 => by
    rw [field_round.xs, hon y h0 h1, Option.bind_some, xs_ring hon hf k (f y) (hf y h0 h1).1 (hf y h0 h1).2, Option.bind_some, ring]
theorem round_next {s : api_Screen} (hl : s.Cells.length ≤ 200) {y : Int} (h0 : 0 ≤ y) (h1 : y < (s.Cells.length : Int)) : field_round.m s y 1 = some (ring (nxt s.Cells.length) s.Cells.length (nxt s.Cells.length y)) := by
  unfold field_round.m
  rw [if_pos (by omega), on_next hl h0 h1, Option.bind_some]
  exact xs_ring (fun _ a b => on_next hl a b) (fun _ a b => nxt_in a b) _ _ (nxt_in h0 h1).1 (nxt_in h0 h1).2
theorem round_prev {s : api_Screen} (hl : s.Cells.length ≤ 200) {y : Int} (h0 : 0 ≤ y) (h1 : y < (s.Cells.length : Int)) : field_round.m s y (-1) = some (ring (prv s.Cells.length) s.Cells.length (prv s.Cells.length y)) := by
  unfold field_round.m
  rw [if_pos (by omega), on_prev hl h0 h1, Option.bind_some]
  exact xs_ring (fun _ a b => on_prev hl a b) (fun _ a b => prv_in a b) _ _ (prv_in h0 h1).1 (prv_in h0 h1).2

/-! ### The cells of a field -/
def isF (s : api_Screen) (i : Int) : Bool := (at_ s.Cells i).Field
def isC (s : api_Screen) (i : Int) : Bool := !(at_ s.Cells i).Field
theorem cells2 {s : api_Screen} : ∀ (l acc : List Int), (∀ x ∈ l, 0 ≤ x ∧ x < (s.Cells.length : Int)) → acc.length + l.length ≤ 1000 → field_Cells.l2.m KK s l acc = some (acc ++ l.takeWhile (isC s))
  | [], acc, _, _ => by rw [field_Cells.l2.m]; simp
  | x :: l, acc, h, hb => by
    have hx := h x (List.mem_cons_self ..)
    rw [field_Cells.l2.m, if_pos hx.1, if_pos hx.2]
    cases hF : (at_ s.Cells x).Field with
    | true => rw [cond_true, List.takeWhile_cons, show isC s x = false by unfold isC; rw [hF]; rfl]; simp
    | false =>
      rw [cond_false, appk (by simp at hb ⊢; omega), Option.bind_some, cells2 l _ (fun y hy => h y (List.mem_cons_of_mem _ hy)) (by simp at hb ⊢; omega), List.takeWhile_cons, show isC s x = true by unfold isC; rw [hF]; rfl]
      simp
theorem mem_tw {p : Int → Bool} {x : Int} : ∀ {l : List Int}, x ∈ l.takeWhile p → p x = true
  | [], h => by cases h
  | y :: l, h => by
    rw [List.takeWhile_cons] at h
    cases hp : p y with
    | false => rw [hp] at h; cases h
    | true =>
      rw [hp] at h
      rcases List.mem_cons.1 h with rfl | h
      · exact hp
      · exact mem_tw h
def cellsOf (s : api_Screen) (b : Int) : List Int := (ring (nxt s.Cells.length) s.Cells.length (nxt s.Cells.length b)).takeWhile (isC s)
theorem cells_len (s : api_Screen) (b : Int) : (cellsOf s b).length ≤ s.Cells.length := by
  unfold cellsOf
  have := (List.takeWhile_sublist (isC s) (l := ring (nxt s.Cells.length) s.Cells.length (nxt s.Cells.length b))).length_le
  rw [ring_len] at this; exact this
theorem cells_in {s : api_Screen} {b : Int} (h0 : 0 ≤ b) (h1 : b < (s.Cells.length : Int)) : ∀ x ∈ cellsOf s b, 0 ≤ x ∧ x < (s.Cells.length : Int) ∧ isC s x = true := fun x hx => by
  have hm := (List.takeWhile_sublist (isC s)).subset hx
  have hr := ring_in (f := nxt s.Cells.length) (fun _ a b => nxt_in a b) _ _ (nxt_in h0 h1).1 (nxt_in h0 h1).2 x hm
  exact ⟨hr.1, hr.2, by unfold cellsOf at hx; exact mem_tw hx⟩
theorem cells_prog {s : api_Screen} (hl : s.Cells.length ≤ 200) {b : Int} (h0 : 0 ≤ b) (h1 : b < (s.Cells.length : Int)) (hF : isF s b = true) : field_Cells.m KK s b = some (cellsOf s b) := by
  unfold field_Cells.m field_Begin.m
  unfold isF at hF
  rw [if_pos h0, if_pos h1, hF, cond_true, Option.bind_some]
  simp only [letJ]
  rw [if_neg (by omega), cond_false, round_next hl h0 h1, Option.bind_some, cells2 _ _ (ring_in (fun _ a b => nxt_in a b) _ _ (nxt_in h0 h1).1 (nxt_in h0 h1).2) (by rw [ring_len]; simp; omega)]
  rfl
theorem mod_ref {x n : Int} (h0 : 0 ≤ x) (hn : 0 < n) : shutterref11_mod.m KK x n = some (Int.tmod x n) := by
  unfold shutterref11_mod.m
  rw [show KK = 1048575 + 1 from rfl, shutterref11_mod.l1.m, if_neg (by omega), Option.bind_some, if_pos (by omega)]
theorem cells_ref_loop {s : api_Screen} (hl : s.Cells.length ≤ 200) {b : Int} (h0 : 0 ≤ b) (h1 : b < (s.Cells.length : Int)) : ∀ (m k : Nat) (j : Int) (acc : List Int), 1 ≤ j → j + m = (s.Cells.length : Int) + 1 → m < k → acc.length < j →
    shutterref11_Cells.l1.m KK s b k acc j = some (acc ++ (ring (nxt s.Cells.length) m (if b + j < (s.Cells.length : Int) then b + j else b + j - s.Cells.length)).takeWhile (isC s)) := by
  intro m
  induction m with
  | zero =>
    intro k j acc hj hm hk ha
    cases k with
    | zero => omega
    | succ k => rw [shutterref11_Cells.l1.m, if_neg (by omega), ring]; simp
  | succ m ih =>
    intro k j acc hj hm hk ha
    cases k with
    | zero => omega
    | succ k =>
    obtain ⟨y, hy⟩ : ∃ y, y = (if b + j < (s.Cells.length : Int) then b + j else b + j - s.Cells.length) := ⟨_, rfl⟩
    have y0 : 0 ≤ y ∧ y < (s.Cells.length : Int) := by rw [hy]; split <;> omega
    have e : Int.tmod (b + j) (s.Cells.length : Int) = y := by
      rw [hy]
      split
      · exact Int.tmod_eq_of_lt (by omega) (by omega)
      · exact tmod_once (by omega) (by omega) (by omega)
    rw [shutterref11_Cells.l1.m, if_pos (by omega), w64_id (n := b + j) (by omega) (by omega), mod_ref (by omega) (by omega), Option.bind_some, e, if_pos y0.1, if_pos y0.2, ← hy, ring, List.takeWhile_cons]
    cases hF : (at_ s.Cells y).Field with
    | true => rw [cond_true, show isC s y = false by unfold isC; rw [hF]; rfl]; simp
    | false =>
      rw [cond_false, show isC s y = true by unfold isC; rw [hF]; rfl, appk (by simp; omega), Option.bind_some, w64_id (by omega) (by omega), ih k (j + 1) _ (by omega) (by omega) (by omega) (by simp; omega)]
      by_cases hm0 : m = 0
      · subst hm0; simp [ring]
      · have hn : nxt s.Cells.length y = (if b + (j + 1) < (s.Cells.length : Int) then b + (j + 1) else b + (j + 1) - s.Cells.length) := by
          rw [hy]; unfold nxt; split <;> split <;> (try split) <;> omega
        rw [hn]; simp
theorem cells_ref {s : api_Screen} (hl : s.Cells.length ≤ 200) {b : Int} (h0 : 0 ≤ b) (h1 : b < (s.Cells.length : Int)) (hF : isF s b = true) : shutterref11_Cells.m KK s b = some (cellsOf s b) := by
  have e : shutterref11_Begin.m KK s b = some b := by
    unfold shutterref11_Begin.m
    unfold isF at hF
    rw [show KK = 1048575 + 1 from rfl, shutterref11_Begin.l1.m, if_pos (by omega), show b - 0 = b by omega, w64_id (by omega) (by omega)]
    have := mod_ref (x := b) (n := (s.Cells.length : Int)) h0 (by omega)
    rw [show KK = 1048575 + 1 from rfl] at this
    rw [this, Option.bind_some, Int.tmod_eq_of_lt h0 h1, if_pos h0, if_pos h1, hF, cond_true, Option.bind_some]
  unfold shutterref11_Cells.m
  rw [e, Option.bind_some, cells_ref_loop hl h0 h1 s.Cells.length KK 1 [] (by omega) (by omega) (by unfold KK; omega) (by simp), Option.bind_some, List.nil_append]
  unfold cellsOf
  have hn : nxt s.Cells.length b = (if b + 1 < (s.Cells.length : Int) then b + 1 else b + 1 - s.Cells.length) := by
    unfold nxt; split <;> split <;> omega
  rw [hn]

/-! ### Letters -/
def ltrS (s : api_Screen) (l : List Int) : List Int := (l.map fun i => (at_ s.Cells i).Char).filter (· != 0)
theorem ltrS_len (s : api_Screen) (l : List Int) : (ltrS s l).length ≤ l.length := by
  unfold ltrS
  have := List.length_filter_le (fun (x : Int) => x != 0) (l.map fun i => (at_ s.Cells i).Char)
  rw [List.length_map] at this; exact this
theorem ltrS_cons (s : api_Screen) (i : Int) (l : List Int) : ltrS s (i :: l) = if (at_ s.Cells i).Char = 0 then ltrS s l else (at_ s.Cells i).Char :: ltrS s l := by
  unfold ltrS
  rw [List.map_cons, List.filter_cons]
  by_cases h : (at_ s.Cells i).Char = 0
  · rw [if_pos h, h]; rfl
  · rw [if_neg h, if_pos (by simpa using h)]
theorem lettersS_loop {s : api_Screen} {l : List Int} (hl : l.length ≤ 200) (hin : ∀ x ∈ l, 0 ≤ x ∧ x < (s.Cells.length : Int) ∧ isC s x = true) : ∀ (k : Nat) (acc : List Int) (i : Int), 0 ≤ i → i ≤ (l.length : Int) → (l.length : Int) - i < (k : Int) → acc.length ≤ i →
    read_letters.l1.m KK s l k acc i = some (acc ++ ltrS s (l.drop i.toNat)) := by
  intro k
  induction k with
  | zero => intro acc i _ _ h; omega
  | succ k ih =>
    intro acc i i0 i1 hk ha
    rw [read_letters.l1.m]
    simp only [letJ]
    by_cases h3 : i < (l.length : Int)
    · have hm := hin _ (at_mem i0 h3)
      have hF : (at_ s.Cells (at_ l i)).Field = false := by
        have := hm.2.2
        unfold isC at this
        cases h : (at_ s.Cells (at_ l i)).Field with
        | true => rw [h] at this; cases this
        | false => rfl
      rw [if_pos h3, cond_true, if_pos i0, if_pos h3, if_pos hm.1, if_pos hm.2.1, hF, cond_false, drop_at i0 h3, ltrS_cons, w64_id (by omega) (by omega)]
      by_cases hc : (at_ s.Cells (at_ l i)).Char = 0
      · rw [if_pos hc, if_pos hc, ih acc (i + 1) (by omega) (by omega) (by omega) (by omega)]
      · rw [if_neg hc, if_neg hc, appk (by simp; omega), Option.bind_some, ih _ (i + 1) (by omega) (by omega) (by omega) (by simp; omega)]
        simp
    · rw [if_neg h3, cond_false, List.drop_eq_nil_of_le (by omega)]
      simp [ltrS]
theorem lettersS_eq {s : api_Screen} {l : List Int} (hl : l.length ≤ 200) (hin : ∀ x ∈ l, 0 ≤ x ∧ x < (s.Cells.length : Int) ∧ isC s x = true) : read_letters.m KK s l = some (ltrS s l) := by
  unfold read_letters.m
  rw [lettersS_loop hl hin KK [] 0 (by omega) (by omega) (by unfold KK; omega) (by simp), Option.bind_some]
  rfl
theorem letters_ref {s : api_Screen} {l : List Int} (hl : l.length ≤ 200) (hin : ∀ x ∈ l, 0 ≤ x ∧ x < (s.Cells.length : Int) ∧ isC s x = true) (q : Int) : ∀ (k : Nat) (acc : List Int) (i : Int), 0 ≤ i → i ≤ (l.length : Int) → (l.length : Int) - i < (k : Int) → acc.length ≤ i →
    shutterref18_Modified.l3.m KK s l k i q acc = some (q, acc ++ ltrS s (l.drop i.toNat)) := by
  intro k
  induction k with
  | zero => intro acc i _ _ h; omega
  | succ k ih =>
    intro acc i i0 i1 hk ha
    rw [shutterref18_Modified.l3.m]
    simp only [letJ]
    by_cases h3 : i < (l.length : Int)
    · have hm := hin _ (at_mem i0 h3)
      simp only [if_pos h3, if_pos i0, if_pos hm.1, if_pos hm.2.1]
      rw [drop_at i0 h3, ltrS_cons, w64_id (by omega) (by omega)]
      by_cases hc : (at_ s.Cells (at_ l i)).Char = 0
      · rw [if_pos hc, if_pos hc, cond_false, ih acc (i + 1) (by omega) (by omega) (by omega) (by omega)]
      · rw [if_neg hc, if_neg hc, cond_true, appk (by simp; omega), Option.bind_some, ih _ (i + 1) (by omega) (by omega) (by omega) (by simp; omega)]
        simp
    · rw [if_neg h3, List.drop_eq_nil_of_le (by omega)]
      simp [ltrS]

/-! ### The fields -/
def ups : Nat → Int → List Int
  | 0, _ => []
  | m + 1, i => i :: ups m (i + 1)
theorem ups_len : ∀ (m : Nat) (i : Int), (ups m i).length = m
  | 0, _ => rfl
  | m + 1, i => by rw [ups, List.length_cons, ups_len m]
theorem ups_in : ∀ (m : Nat) (i : Int), ∀ x ∈ ups m i, i ≤ x ∧ x < i + m
  | 0, _, x, h => by cases h
  | m + 1, i, x, h => by
    rcases List.mem_cons.1 h with rfl | h
    · omega
    · have := ups_in m (i + 1) x h; omega
def isM (s : api_Screen) (i : Int) : Bool := (at_ s.Cells i).Attr.Modified
def begs (s : api_Screen) : List Int := (ups s.Cells.length 0).filter (isF s)
def ent (s : api_Screen) (b : Int) : api_Entry := ⟨nxt s.Cells.length b, ltrS s (cellsOf s b)⟩
def ents (s : api_Screen) : List api_Entry := ((begs s).filter (isM s)).map (ent s)
theorem begs_in {s : api_Screen} : ∀ x ∈ begs s, 0 ≤ x ∧ x < (s.Cells.length : Int) ∧ isF s x = true := fun x hx => by
  obtain ⟨h1, h2⟩ := List.mem_filter.1 hx
  have := ups_in _ _ x h1
  exact ⟨by omega, by omega, h2⟩
theorem begs_len (s : api_Screen) : (begs s).length ≤ s.Cells.length := by
  have := List.length_filter_le (isF s) (ups s.Cells.length 0)
  rw [ups_len] at this; exact this
theorem begins_loop {s : api_Screen} (hl : s.Cells.length ≤ 200) : ∀ (m k : Nat) (acc : List Int) (i : Int), 0 ≤ i → i + m = (s.Cells.length : Int) → m < k → acc.length ≤ i →
    field_Begins.l1.m KK s k acc i = some (acc ++ (ups m i).filter (isF s)) := by
  intro m
  induction m with
  | zero =>
    intro k acc i i0 hm hk ha
    cases k with
    | zero => omega
    | succ k =>
    rw [field_Begins.l1.m]
    simp only [letJ]
    rw [if_neg (by omega), cond_false, ups]; simp
  | succ m ih =>
    intro k acc i i0 hm hk ha
    cases k with
    | zero => omega
    | succ k =>
    rw [field_Begins.l1.m]
    simp only [letJ]
    rw [if_pos (by omega), cond_true, if_pos i0, if_pos (by omega), w64_id (by omega) (by omega), ups, List.filter_cons]
    unfold isF
    cases hF : (at_ s.Cells i).Field with
    | true => rw [cond_true, appk (by simp; omega), Option.bind_some, ih k _ (i + 1) (by omega) (by omega) (by omega) (by simp; omega)]; simp; rfl
    | false => rw [cond_false, ih k _ (i + 1) (by omega) (by omega) (by omega) (by omega)]; simp; rfl
theorem begins_eq {s : api_Screen} (hl : s.Cells.length ≤ 200) : field_Begins.m KK s = some (begs s) := by
  unfold field_Begins.m
  rw [begins_loop hl s.Cells.length KK [] 0 (by omega) (by omega) (by unfold KK; omega) (by simp), Option.bind_some]
  rfl
theorem fields_prog {s : api_Screen} (hl : s.Cells.length ≤ 200) (a c : Int) : ∀ (k : Nat) (acc : List api_Entry) (i : Int), 0 ≤ i → i ≤ ((begs s).length : Int) → ((begs s).length : Int) - i < (k : Int) → acc.length ≤ i →
    read_Modified.l1.m KK s (begs s) k i a c acc = some (a, c, acc ++ (((begs s).drop i.toNat).filter (isM s)).map (ent s)) := by
  intro k
  induction k with
  | zero => intro acc i _ _ h; omega
  | succ k ih =>
    intro acc i i0 i1 hk ha
    have hbl := begs_len s
    rw [read_Modified.l1.m]
    simp only [letJ]
    by_cases h3 : i < ((begs s).length : Int)
    · have hm := begs_in _ (at_mem i0 h3)
      have hcl := cells_len s (at_ (begs s) i)
      rw [if_pos h3, cond_true, if_pos i0, if_pos h3, if_pos hm.1, if_pos hm.2.1, drop_at i0 h3, List.filter_cons, w64_id (by omega) (by omega)]
      unfold isM
      cases hM : (at_ s.Cells (at_ (begs s) i)).Attr.Modified with
      | true =>
        rw [cond_true, cond_true, on_next hl hm.1 hm.2.1, Option.bind_some, cells_prog hl hm.1 hm.2.1 hm.2.2, Option.bind_some, lettersS_eq (by omega) (cells_in hm.1 hm.2.1), Option.bind_some, appk (by simp; omega), Option.bind_some,
          ih _ (i + 1) (by omega) (by omega) (by omega) (by simp; omega)]
        simp; exact ⟨rfl, rfl⟩
      | false =>
        rw [cond_false, cond_false, ih _ (i + 1) (by omega) (by omega) (by omega) (by omega)]
        simp; rfl
    · rw [if_neg h3, cond_false, List.drop_eq_nil_of_le (by omega)]
      simp
theorem fields_ref {s : api_Screen} (hl : s.Cells.length ≤ 200) (a c : Int) : ∀ (m k : Nat) (acc : List api_Entry) (i : Int), 0 ≤ i → i + m = (s.Cells.length : Int) → m < k → acc.length ≤ i →
    shutterref18_Modified.l2.m KK s k i a c acc = some (a, c, acc ++ (((ups m i).filter (isF s)).filter (isM s)).map (ent s)) := by
  intro m
  induction m with
  | zero =>
    intro k acc i i0 hm hk ha
    cases k with
    | zero => omega
    | succ k => rw [shutterref18_Modified.l2.m, if_neg (by omega), ups]; simp
  | succ m ih =>
    intro k acc i i0 hm hk ha
    cases k with
    | zero => omega
    | succ k =>
    have hcl := cells_len s i
    rw [shutterref18_Modified.l2.m, if_pos (by omega), if_pos i0, w64_id (n := i + 1) (by omega) (by omega), ups, List.filter_cons]
    cases hF : (at_ s.Cells i).Field with
    | false =>
      rw [cond_false, ih k _ (i + 1) (by omega) (by omega) (by omega) (by omega), show isF s i = false from hF]
      simp
    | true =>
      rw [cond_true, show isF s i = true from hF, if_pos rfl, List.filter_cons]
      cases hM : (at_ s.Cells i).Attr.Modified with
      | false =>
        rw [cond_false, ih k _ (i + 1) (by omega) (by omega) (by omega) (by omega), show isM s i = false from hM]
        simp
      | true =>
        have hnx : shutterref10_Next.m s i = some (nxt s.Cells.length i) := by
          unfold shutterref10_Next.m nxt
          rw [w64_id (n := i + 1) (by omega) (by omega)]
          split <;> rfl
        rw [cond_true, cells_ref hl i0 (by omega) hF, Option.bind_some, hnx, Option.bind_some, letters_ref (by omega) (cells_in i0 (by omega)) _ KK [] 0 (by omega) (by omega) (by unfold KK; omega) (by simp), Option.bind_some]
        simp only
        rw [appk (by simp; omega), Option.bind_some, ih k _ (i + 1) (by omega) (by omega) (by omega) (by simp; omega), show isM s i = true from hM]
        simp; rfl

/-! ### Screens without fields -/
def anyF (s : api_Screen) (m : Nat) (i : Int) : Bool := (ups m i).any (isF s)
theorem formatted_loop {s : api_Screen} (hl : s.Cells.length ≤ 200) : ∀ (m k : Nat) (i : Int), 0 ≤ i → i + m = (s.Cells.length : Int) → m < k →
    (anyF s m i = true ∧ (∃ j, 0 ≤ j ∧ slices_IndexFunc_api_Cell__field_Formatted_1.l1.m KK s.Cells k i = some (.inl j)) ∧ shutterref11_Formatted.l1.m KK s k i = some (.inl true)) ∨
    (anyF s m i = false ∧ slices_IndexFunc_api_Cell__field_Formatted_1.l1.m KK s.Cells k i = some (.inr ()) ∧ shutterref11_Formatted.l1.m KK s k i = some (.inr ())) := by
  intro m
  induction m with
  | zero =>
    intro k i i0 hm hk
    cases k with
    | zero => omega
    | succ k =>
    rw [slices_IndexFunc_api_Cell__field_Formatted_1.l1.m, shutterref11_Formatted.l1.m]
    simp only [letJ]
    have h3 : ¬ i < (s.Cells.length : Int) := by omega
    simp only [if_neg h3, cond_false]
    exact .inr ⟨rfl, trivial, trivial⟩
  | succ m ih =>
    intro k i i0 hm hk
    cases k with
    | zero => omega
    | succ k =>
    rw [slices_IndexFunc_api_Cell__field_Formatted_1.l1.m, shutterref11_Formatted.l1.m]
    simp only [letJ]
    have h3 : i < (s.Cells.length : Int) := by omega
    simp only [if_pos h3, cond_true, if_pos i0]
    rw [w64_id (by omega) (by omega)]
    unfold field_Formatted_1.m
    unfold anyF
    simp only [Option.bind_some]
    rw [ups, List.any_cons]
    cases hF : (at_ s.Cells i).Field with
    | true => exact .inl ⟨by rw [show isF s i = true from hF]; rfl, ⟨i, i0, rfl⟩, rfl⟩
    | false =>
      rw [show isF s i = false from hF, cond_false, cond_false, Bool.false_or]
      exact ih k (i + 1) (by omega) (by omega) (by omega)
def fmt (s : api_Screen) : Bool := anyF s s.Cells.length 0
theorem formatted_prog {s : api_Screen} (hl : s.Cells.length ≤ 200) : field_Formatted.m KK s = some (fmt s) := by
  unfold field_Formatted.m slices_ContainsFunc_api_Cell__field_Formatted_1.m slices_IndexFunc_api_Cell__field_Formatted_1.m fmt
  rcases formatted_loop hl s.Cells.length KK 0 (by omega) (by omega) (by unfold KK; omega) with ⟨h, ⟨j, j0, e⟩, _⟩ | ⟨h, e, _⟩
  · rw [e, h]; simp [j0]
  · rw [e, h]; rfl
theorem formatted_ref {s : api_Screen} (hl : s.Cells.length ≤ 200) : shutterref11_Formatted.m KK s = some (fmt s) := by
  unfold shutterref11_Formatted.m fmt
  rcases formatted_loop hl s.Cells.length KK 0 (by omega) (by omega) (by unfold KK; omega) with ⟨h, _, e⟩ | ⟨h, _, e⟩
  · rw [e, h]; rfl
  · rw [e, h]; rfl
theorem ups_mem : ∀ (m : Nat) (i x : Int), i ≤ x → x < i + m → x ∈ ups m i
  | 0, i, x, h1, h2 => by omega
  | m + 1, i, x, h1, h2 => by
    rw [ups]
    by_cases h : x = i
    · rw [h]; exact List.mem_cons_self ..
    · exact List.mem_cons_of_mem _ (ups_mem m (i + 1) x (by omega) (by omega))
theorem bare {s : api_Screen} (h : fmt s = false) {i : Int} (h0 : 0 ≤ i) (h1 : i < (s.Cells.length : Int)) : (at_ s.Cells i).Field = false := by
  unfold fmt anyF at h
  rw [List.any_eq_false] at h
  have := h i (ups_mem _ _ _ h0 (by omega))
  simpa [isF] using this
theorem begin_none {s : api_Screen} (h : fmt s = false) : ∀ (l : List Int), (∀ x ∈ l, 0 ≤ x ∧ x < (s.Cells.length : Int)) → field_Begin.l1.m KK s l = some (.inr ())
  | [], _ => rfl
  | x :: l, hin => by
    have hx := hin x (List.mem_cons_self ..)
    rw [field_Begin.l1.m, if_pos hx.1, if_pos hx.2, bare h hx.1 hx.2, cond_false]
    exact begin_none h l fun y hy => hin y (List.mem_cons_of_mem _ hy)
theorem all_loop {s : api_Screen} (hl : s.Cells.length ≤ 200) : ∀ (m k : Nat) (i : Int) (acc : List Int), 0 ≤ i → i + m = (s.Cells.length : Int) → m < k → acc.length ≤ i →
    field_Cells.l1.m KK s k i acc = some (acc ++ ups m i) := by
  intro m
  induction m with
  | zero =>
    intro k i acc i0 hm hk ha
    cases k with
    | zero => omega
    | succ k =>
    rw [field_Cells.l1.m]
    simp only [letJ]
    rw [if_neg (by omega), cond_false, ups]; simp
  | succ m ih =>
    intro k i acc i0 hm hk ha
    cases k with
    | zero => omega
    | succ k =>
    rw [field_Cells.l1.m]
    simp only [letJ]
    rw [if_pos (by omega), cond_true, appk (by simp; omega), Option.bind_some, w64_id (by omega) (by omega), ih k (i + 1) _ (by omega) (by omega) (by omega) (by simp; omega), ups]
    simp
theorem all_prog {s : api_Screen} (f : FewP s) (h : fmt s = false) : field_Cells.m KK s 0 = some (ups s.Cells.length 0) := by
  have hl := f.len
  have c0 := f.c0
  have c1 := f.c1
  unfold field_Cells.m field_Begin.m
  rw [if_pos (by omega), if_pos (by omega), bare h (by omega) (by omega), cond_false, round_prev hl (by omega) (by omega), Option.bind_some, begin_none h _ (ring_in (fun _ a b => prv_in a b) _ _ (prv_in (by omega) (by omega)).1 (prv_in (by omega) (by omega)).2), Option.bind_some]
  simp only [letJ, Option.bind_some]
  rw [if_pos (by omega), cond_true, all_loop hl s.Cells.length KK 0 [] (by omega) (by omega) (by unfold KK; omega) (by simp), Option.bind_some]
  rfl
theorem letter_ref {s : api_Screen} (f : FewP s) (h : fmt s = false) {i : Int} (h0 : 0 ≤ i) (h1 : i < (s.Cells.length : Int)) : shutterref09_Letter.m (at_ s.Cells i).Char = some (if (at_ s.Cells i).Char = 0 then false else true) := by
  have hm : at_ s.Cells i ∈ s.Cells := by
    have hi : i.toNat < s.Cells.length := by omega
    unfold at_
    rw [List.getD_eq_getElem?_getD, List.getElem?_eq_getElem hi, Option.getD_some]; exact List.getElem_mem _
  have hc := f.cell _ hm
  unfold shutterref10_Cell.m at hc
  simp only [letJ, bare h h0 h1, cond_false] at hc
  unfold shutterref09_Letter.m
  by_cases hz : (at_ s.Cells i).Char = 0
  · rw [if_pos hz, if_pos hz]
  · rw [if_neg hz, if_neg hz]
    revert hc
    cases ((at_ s.Cells i).Attr.Protected == false && ((at_ s.Cells i).Attr.Numeric == false && ((at_ s.Cells i).Attr.Show == 0 && ((at_ s.Cells i).Attr.Modified == false && true)))) with
    | false => intro hc; rw [cond_false] at hc; cases hc
    | true => intro hc; rw [cond_true] at hc; exact hc
theorem all_ref {s : api_Screen} (f : FewP s) (h : fmt s = false) : ∀ (m k : Nat) (acc : List Int) (i : Int), 0 ≤ i → i + m = (s.Cells.length : Int) → m < k → acc.length ≤ i →
    shutterref18_Modified.l1.m KK s k acc i = some (acc ++ ltrS s (ups m i)) := by
  have hl := f.len
  intro m
  induction m with
  | zero =>
    intro k acc i i0 hm hk ha
    cases k with
    | zero => omega
    | succ k => rw [shutterref18_Modified.l1.m, if_neg (by omega), ups]; simp [ltrS]
  | succ m ih =>
    intro k acc i i0 hm hk ha
    cases k with
    | zero => omega
    | succ k =>
    rw [shutterref18_Modified.l1.m]
    simp only [letJ]
    rw [if_pos (by omega), if_pos i0, letter_ref f h i0 (by omega), Option.bind_some, ups, ltrS_cons]
    simp only [if_pos i0]
    rw [w64_id (by omega) (by omega)]
    by_cases hz : (at_ s.Cells i).Char = 0
    · rw [if_pos hz, if_pos hz, cond_false, cond_false, ih k _ (i + 1) (by omega) (by omega) (by omega) (by omega)]
    · rw [if_neg hz, if_neg hz, cond_true, cond_true, appk (by simp; omega), Option.bind_some, ih k _ (i + 1) (by omega) (by omega) (by omega) (by simp; omega)]
      simp

/-! ### What is read -/
def bareF (s : api_Screen) : List api_Entry := if ((ltrS s (ups s.Cells.length 0)).length : Int) > 0 then [⟨-1, ltrS s (ups s.Cells.length 0)⟩] else []
def isBare (x : Int) : Bool := x == 108 || x == 110 || x == 107 || x == 109
theorem bare_prog (x : Int) : attr_Bare.m x = some (isBare x) := by
  unfold attr_Bare.m isBare
  repeat' split
  all_goals simp_all
theorem bare_ref (x : Int) : shutterref05_Bare.m x = some (isBare x) := by
  unfold shutterref05_Bare.m isBare
  by_cases h1 : x = 109
  · simp [h1]
  · by_cases h2 : x = 108
    · simp [h2]
    · by_cases h3 : x = 110
      · simp [h3]
      · have e1 : (x == 109) = false := by simpa using h1
        have e2 : (x == 108) = false := by simpa using h2
        have e3 : (x == 110) = false := by simpa using h3
        rw [if_neg h1, if_neg h2, if_neg h3, e1, e2, e3]; simp
theorem aid_same (x : Int) : ∃ b, attr_Aid.m x = some b ∧ shutterref05_Aid.m x = some b := by
  unfold attr_Aid.m shutterref05_Aid.m
  rw [bare_prog, bare_ref]
  simp only [Option.bind_some]
  cases isBare x with
  | true => exact ⟨true, rfl, rfl⟩
  | false =>
    simp only [cond_false]
    repeat' split
    all_goals exact ⟨_, rfl, rfl⟩
def inOf (s : api_Screen) (x : Int) : api_In := bif isBare x then ⟨x, 0, []⟩ else ⟨x, s.Cursor, bif fmt s then ents s else bareF s⟩
def modOf (s : api_Screen) (x : Int) (b : Bool) : api_In × GoErr := bif b then (inOf s x, .nil) else (⟨0, 0, []⟩, .no 3)
theorem ups_C {s : api_Screen} (h : fmt s = false) : ∀ x ∈ ups s.Cells.length 0, 0 ≤ x ∧ x < (s.Cells.length : Int) ∧ isC s x = true := fun x hx => by
  have := ups_in _ _ x hx
  exact ⟨by omega, by omega, by unfold isC; rw [bare h (by omega) (by omega)]; rfl⟩
theorem modified_prog {s : api_Screen} (f : FewP s) {x : Int} {b : Bool} (hb : attr_Aid.m x = some b) : read_Modified.m KK s x = some (modOf s x b) := by
  have hl := f.len
  unfold read_Modified.m modOf inOf
  simp only [letJ]
  rw [hb, Option.bind_some]
  cases b with
  | false => rfl
  | true =>
    rw [cond_true, cond_false, bare_prog, Option.bind_some]
    cases isBare x with
    | true => rfl
    | false =>
      rw [cond_false, formatted_prog hl, Option.bind_some]
      cases hf : fmt s with
      | true =>
        have hbl := begs_len s
        rw [cond_true, cond_false, begins_eq hl, Option.bind_some, fields_prog hl x s.Cursor KK [] 0 (by omega) (by omega) (by unfold KK; omega) (by simp), Option.bind_some]
        rfl
      | false =>
        rw [cond_false, cond_true, all_prog f hf, Option.bind_some, lettersS_eq (by rw [ups_len]; omega) (ups_C hf), Option.bind_some]
        simp only [cond_false, cond_true]
        unfold bareF
        split <;> rfl
theorem modified_ref {s : api_Screen} (f : FewP s) (x : Int) : shutterref18_Modified.m KK s x = some (inOf s x) := by
  have hl := f.len
  unfold shutterref18_Modified.m inOf
  simp only [letJ]
  rw [bare_ref, Option.bind_some]
  cases isBare x with
  | true => rfl
  | false =>
    rw [cond_false, formatted_ref hl, Option.bind_some]
    cases hf : fmt s with
    | true =>
      rw [cond_true, cond_false, fields_ref hl x s.Cursor s.Cells.length KK [] 0 (by omega) (by omega) (by unfold KK; omega) (by simp), Option.bind_some]
      rfl
    | false =>
      rw [cond_false, cond_true, all_ref f hf s.Cells.length KK [] 0 (by omega) (by omega) (by unfold KK; omega) (by simp), Option.bind_some]
      simp only [cond_false, List.nil_append]
      unfold bareF
      have hll := ltrS_len s (ups s.Cells.length 0)
      rw [ups_len] at hll
      split
      · rw [cond_true, appk (by simp), Option.bind_some]; rfl
      · rfl
theorem in_small {s : api_Screen} (hl : s.Cells.length ≤ 200) (x : Int) : (inOf s x).Fields.length ≤ 200 ∧ ∀ e ∈ (inOf s x).Fields, e.Text.length ≤ 200 := by
  unfold inOf
  cases isBare x with
  | true => exact ⟨by simp, fun e h => by cases h⟩
  | false =>
    simp only [cond_false]
    cases fmt s with
    | true =>
      have hb := begs_len s
      have := List.length_filter_le (isM s) (begs s)
      refine ⟨by simp only [cond_true, ents, List.length_map]; omega, fun e h => ?_⟩
      obtain ⟨b, _, rfl⟩ := List.mem_map.1 h
      have h1 := ltrS_len s (cellsOf s b)
      have h2 := cells_len s b
      simp only [ent]; omega
    | false =>
      have h1 := ltrS_len s (ups s.Cells.length 0)
      rw [ups_len] at h1
      unfold bareF
      simp only [cond_false]
      split
      · exact ⟨by simp, fun e h => by rw [List.mem_singleton] at h; subst h; simp only; omega⟩
      · exact ⟨by simp, fun e h => by cases h⟩

/-! ### Inputs compared with themselves -/
theorem at_memG {α : Type} [Inhabited α] {l : List α} {i : Int} (h0 : 0 ≤ i) (h1 : i < (l.length : Int)) : at_ l i ∈ l := by
  have hi : i.toNat < l.length := by omega
  unfold at_
  rw [List.getD_eq_getElem?_getD, List.getElem?_eq_getElem hi, Option.getD_some]; exact List.getElem_mem _
theorem eqB_loop {x : List Int} (hl : x.length ≤ 200) : ∀ (k : Nat) (i : Int), 0 ≤ i → i ≤ (x.length : Int) → (x.length : Int) - i < (k : Int) → slices_Equal_bytes.l1.m KK x x k i = some (.inr ()) := by
  intro k
  induction k with
  | zero => intro i _ _ h; omega
  | succ k ih =>
    intro i i0 i1 hk
    rw [slices_Equal_bytes.l1.m]
    simp only [letJ]
    by_cases h3 : i < (x.length : Int)
    · rw [if_pos h3, cond_true, if_pos i0, if_pos h3, if_pos h3, if_pos trivial, w64_id (by omega) (by omega)]
      exact ih (i + 1) (by omega) (by omega) (by omega)
    · rw [if_neg h3, cond_false]
theorem eqB_refl {x : List Int} (hl : x.length ≤ 200) : slices_Equal_bytes.m KK x x = some true := by
  unfold slices_Equal_bytes.m
  rw [if_pos rfl, eqB_loop hl KK 0 (by omega) (by omega) (by unfold KK; omega), Option.bind_some]
theorem eqF_loop {x : List api_Entry} (hl : x.length ≤ 200) (ht : ∀ e ∈ x, e.Text.length ≤ 200) : ∀ (k : Nat) (i : Int), 0 ≤ i → i ≤ (x.length : Int) → (x.length : Int) - i < (k : Int) → slices_EqualFunc_api_Entry__input_Same_1.l1.m KK x x k i = some (.inr ()) := by
  intro k
  induction k with
  | zero => intro i _ _ h; omega
  | succ k ih =>
    intro i i0 i1 hk
    rw [slices_EqualFunc_api_Entry__input_Same_1.l1.m]
    simp only [letJ]
    by_cases h3 : i < (x.length : Int)
    · have := ht _ (at_memG i0 h3)
      have e : input_Same_1.m KK (at_ x i) (at_ x i) = some true := by
        unfold input_Same_1.m
        rw [if_pos rfl, eqB_refl this, Option.bind_some]
      rw [if_pos h3, cond_true, if_pos i0, if_pos h3, if_pos h3, e, Option.bind_some, cond_true, w64_id (by omega) (by omega)]
      exact ih (i + 1) (by omega) (by omega) (by omega)
    · rw [if_neg h3, cond_false]
theorem inSame_refl {x : api_In} (hl : x.Fields.length ≤ 200) (ht : ∀ e ∈ x.Fields, e.Text.length ≤ 200) : input_Same.m KK x x = some true := by
  unfold input_Same.m slices_EqualFunc_api_Entry__input_Same_1.m
  rw [if_pos rfl, if_pos rfl, if_pos rfl, eqF_loop hl ht KK 0 (by omega) (by omega) (by unfold KK; omega), Option.bind_some, Option.bind_some]

end Go.Proofs.YtfbcjibdgicaoaaGreatDoor.Sx

