import Derived.Test.YtjkbhpokboolpaaGreatDoorSS
import Derived.Test.YtjkbhpokboolpaaGreatDoorGE
namespace Go.Proofs.YtjkbhpokboolpaaGreatDoor.Sx
open Go
set_option maxRecDepth 100000
set_option maxHeartbeats 4000000
structure U12 (s : api_Screen) : Prop where
  u : US s
  r : s.Rows = 2
  c : s.Cols = 6
  n : s.Cells.length = 12
def N12 (s t : api_Screen) : Prop := U12 t
def Lk (s : api_Screen) (p : Option (api_Screen × GoErr)) (q : Option (api_Screen × Int × Int)) : Prop := ∃ t e w a, p = some (t, e) ∧ q = some (t, w, a) ∧ codeOf e = w ∧ U12 t
section
variable {s : api_Screen}
theorem U12.with (v : U12 s) {l : List api_Cell} (h : CO s.Cells.length l) {c : Int} (c0 : 0 ≤ c) (c1 : c < 12) (a b : Bool) : U12 ⟨s.Rows, s.Cols, l, c, a, b⟩ :=
  ⟨(v.u.with h c0 (by rw [v.n]; exact c1) s.Rows a b).1, v.r, v.c, h.1.trans v.n⟩
theorem U12.lt (v : U12 s) : s.Cursor < 12 := by have := v.u.c1; rw [v.n] at this; exact this
theorem rcopyU (u : US s) : shutterref10_Copy.m s = some s := by
  unfold shutterref10_Copy.m
  rw [appk (by have := u.len; simp; omega)]
  rfl
theorem mod_l : ∀ (k : Nat) (x : Int), -12 * (k : Int) ≤ x → -1000 ≤ x → x ≤ 100 → ∀ q, ∃ y, shutterref11_mod.l1.m KK 12 (k + 1 + q) x = some y ∧ 0 ≤ y ∧ y ≤ 100 ∧ y % 12 = x % 12 := by
  intro k
  induction k with
  | zero =>
    intro x h0 h2 h1 q
    refine ⟨x, ?_, by omega, h1, rfl⟩
    rw [show 0 + 1 + q = q + 1 by omega, shutterref11_mod.l1.m, if_neg (by omega)]
  | succ k ih =>
    intro x h0 h2 h1 q
    rw [show k + 1 + 1 + q = (k + 1 + q) + 1 by omega, shutterref11_mod.l1.m]
    by_cases h : x < 0
    · rw [if_pos h, w64_id (by omega) (by omega)]
      obtain ⟨y, e, a, b, c⟩ := ih (x + 12) (by omega) (by omega) (by omega) q
      exact ⟨y, e, a, b, by omega⟩
    · rw [if_neg h]; exact ⟨x, rfl, by omega, h1, rfl⟩
theorem mod_eq {x : Int} (h0 : -60 ≤ x) (h1 : x ≤ 60) : shutterref11_mod.m KK x 12 = some (x % 12) := by
  obtain ⟨y, e, a, b, c⟩ := mod_l 5 x (by omega) (by omega) (by omega) 1048570
  unfold shutterref11_mod.m
  rw [show shutterref11_mod.l1.m KK 12 KK x = some y from e, Option.bind_some, if_pos (by decide), Int.tmod_eq_emod_of_nonneg a, c]
theorem rbegin_l (v : U12 s) {a : Int} (h0 : 0 ≤ a) (h1 : a < 12) : ∀ (k : Nat) (i : Int), 0 ≤ i → i ≤ 12 → 12 - i < k → shutterref11_Begin.l1.m KK s a k i = some () := by
  intro k
  induction k with
  | zero => intro i _ _ h; omega
  | succ k ih =>
    intro i i0 i1 hk
    rw [shutterref11_Begin.l1.m, v.n]
    by_cases h3 : i < ((12 : Nat) : Int)
    · have m := mod_eq (x := a - i) (by omega) (by omega)
      rw [if_pos h3, w64_id (n := a - i) (by omega) (by omega), show ((12 : Nat) : Int) = 12 from rfl, m, Option.bind_some, if_pos (by omega), if_pos (by omega), (v.u.at (i := (a - i) % 12) (by omega) (by rw [v.n]; omega)).1, cond_false, w64_id (n := i + 1) (by omega) (by omega)]
      exact ih (i + 1) (by omega) (by omega) (by omega)
    · rw [if_neg h3]
theorem rbegin (v : U12 s) {a : Int} (h0 : 0 ≤ a) (h1 : a < 12) : shutterref11_Begin.m KK s a = some (-1) := by
  unfold shutterref11_Begin.m
  rw [rbegin_l v h0 h1 KK 0 (by omega) (by omega) (by unfold KK; omega)]
  rfl
theorem rof (v : U12 s) {a : Int} (h0 : 0 ≤ a) (h1 : a < 12) : shutterref11_Of.m KK s a = some ⟨false, false, 0, false⟩ := by
  unfold shutterref11_Of.m
  rw [rbegin v h0 h1, Option.bind_some, if_pos (by decide)]
theorem ropen (v : U12 s) {a : Int} (h0 : 0 ≤ a) (h1 : a < 12) : shutterref11_Open.m KK s a = some true := by
  unfold shutterref11_Open.m
  rw [if_pos h0, if_pos (by rw [v.n]; exact h1), (v.u.at h0 (by rw [v.n]; exact h1)).1, cond_false, rof v h0 h1]
  rfl
theorem rcells_l (v : U12 s) : ∀ (m k : Nat) (i : Int) (acc : List Int), 1 ≤ i → i + m = 13 → m < k → acc.length ≤ i → shutterref11_Cells.l1.m KK s (-1) k acc i = some (acc ++ ups m (i - 1)) := by
  intro m
  induction m with
  | zero =>
    intro k i acc i0 i1 hk ha
    obtain ⟨k, rfl⟩ : ∃ q, k = q + 1 := ⟨k - 1, by omega⟩
    rw [shutterref11_Cells.l1.m, v.n, if_neg (by omega), ups]
    simp
  | succ m ih =>
    intro k i acc i0 i1 hk ha
    obtain ⟨k, rfl⟩ : ∃ q, k = q + 1 := ⟨k - 1, by omega⟩
    have e := mod_eq (x := -1 + i) (by omega) (by omega)
    have q : (-1 + i) % 12 = i - 1 := by omega
    rw [shutterref11_Cells.l1.m, v.n, if_pos (by omega), w64_id (n := -1 + i) (by omega) (by omega), show ((12 : Nat) : Int) = 12 from rfl, e, Option.bind_some, q, if_pos (by omega), if_pos (by omega), (v.u.at (i := i - 1) (by omega) (by rw [v.n]; omega)).1, cond_false, appk (by simp; omega), Option.bind_some,
      w64_id (n := i + 1) (by omega) (by omega), ih k (i + 1) _ (by omega) (by omega) (by omega) (by simp; omega), ups]
    simp
theorem rcells (v : U12 s) {a : Int} (h0 : 0 ≤ a) (h1 : a < 12) : shutterref11_Cells.m KK s a = some (ups 12 0) := by
  unfold shutterref11_Cells.m
  rw [rbegin v h0 h1, Option.bind_some, rcells_l v 12 KK 1 [] (by omega) (by omega) (by unfold KK; omega) (by simp)]
  rfl
theorem rfirst (v : U12 s) {i : Int} (h0 : 0 ≤ i) (h1 : i < 12) : shutterref11_first.m KK s i = some (-1) := by
  unfold shutterref11_first.m
  rw [v.n, w64_id (n := i + 1) (by omega) (by omega), show ((12 : Nat) : Int) = 12 from rfl, mod_eq (x := i + 1) (by omega) (by omega), Option.bind_some, if_pos h0, if_pos h1, (v.u.at h0 (by rw [v.n]; exact h1)).1, cond_false]
theorem rnext_l (v : U12 s) {a : Int} (h0 : 0 ≤ a) (h1 : a < 12) : ∀ (k : Nat) (i : Int), 0 ≤ i → i ≤ 13 → 13 - i < k → shutterref11_Next.l1.m KK s a k i = some () := by
  intro k
  induction k with
  | zero => intro i _ _ h; omega
  | succ k ih =>
    intro i i0 i1 hk
    rw [shutterref11_Next.l1.m, v.n]
    by_cases h3 : i ≤ ((12 : Nat) : Int)
    · rw [if_pos h3, w64_id (n := a + i) (by omega) (by omega), show ((12 : Nat) : Int) = 12 from rfl, mod_eq (x := a + i) (by omega) (by omega), Option.bind_some, rfirst v (by omega) (by omega), Option.bind_some, if_neg (by decide), w64_id (n := i + 1) (by omega) (by omega)]
      exact ih (i + 1) (by omega) (by omega) (by omega)
    · rw [if_neg h3]
theorem rnext (v : U12 s) {a : Int} (h0 : 0 ≤ a) (h1 : a < 12) : shutterref11_Next.m KK s a = some (-1) := by
  unfold shutterref11_Next.m
  rw [rnext_l v h0 h1 KK 1 (by omega) (by omega) (by unfold KK; omega)]
  rfl
theorem rprev_l (v : U12 s) {a : Int} (h0 : 0 ≤ a) (h1 : a < 12) : ∀ (k : Nat) (i : Int), 0 ≤ i → i ≤ 14 → 14 - i < k → shutterref11_Prev.l1.m KK s a k i = some () := by
  intro k
  induction k with
  | zero => intro i _ _ h; omega
  | succ k ih =>
    intro i i0 i1 hk
    rw [shutterref11_Prev.l1.m, v.n, show w64 (((12 : Nat) : Int) + 1) = 13 from by decide]
    by_cases h3 : i ≤ 13
    · rw [if_pos h3, w64_id (n := a - i) (by omega) (by omega), show ((12 : Nat) : Int) = 12 from rfl, mod_eq (x := a - i) (by omega) (by omega), Option.bind_some, rfirst v (by omega) (by omega), Option.bind_some, if_neg (by decide), w64_id (n := i + 1) (by omega) (by omega)]
      exact ih (i + 1) (by omega) (by omega) (by omega)
    · rw [if_neg h3]
theorem rprev (v : U12 s) {a : Int} (h0 : 0 ≤ a) (h1 : a < 12) : shutterref11_Prev.m KK s a = some (-1) := by
  unfold shutterref11_Prev.m
  rw [rprev_l v h0 h1 KK 2 (by omega) (by omega) (by unfold KK; omega)]
  rfl
theorem rmodify (v : U12 s) {a : Int} (h0 : 0 ≤ a) (h1 : a < 12) : shutterref14_Modify.m KK s a = some s := by
  unfold shutterref14_Modify.m
  rw [rcopyU v.u, Option.bind_some, rbegin v h0 h1, Option.bind_some, if_neg (by decide)]
theorem rdeny (u : US s) : shutterref14_Deny.m s = some ⟨s.Rows, s.Cols, s.Cells, s.Cursor, true, s.Insert⟩ := by
  unfold shutterref14_Deny.m
  rw [rcopyU u]; rfl
theorem drop_ups : ∀ (n j : Nat) (i : Int), (ups n i).drop j = ups (n - j) (i + j)
  | 0, j, i => by rw [ups, Nat.zero_sub, ups, List.drop_nil]
  | n + 1, 0, i => by simp
  | n + 1, j + 1, i => by
    rw [ups, List.drop_succ_cons, drop_ups n j (i + 1), show n + 1 - (j + 1) = n - j by omega]
    congr 1
    omega
theorem line_exact (v : U12 s) {a : Int} (h0 : 0 ≤ a) (h1 : a < 12) : edit_Line.m KK s a = some (ups (12 - a.toNat) a) := by
  have hl : a < (s.Cells.length : Int) := by rw [v.n]; exact h1
  unfold edit_Line.m slices_Index_int.m
  rw [openU v.u h0 hl, Option.bind_some, cond_true, cellsU v.u h0 hl, Option.bind_some, indexU hl v.u.len KK 0 (by omega) h0 (by unfold KK; omega), Option.bind_some, if_pos h0, ups_len, if_pos (by omega), v.n]
  have e := sub_end (l := ups 12 0) (i := a)
  rw [ups_len] at e
  rw [e, drop_ups, Int.zero_add, Int.toNat_of_nonneg h0]
theorem rline2 {a : Int} : ∀ (m k : Nat) (i : Int) (acc : List Int), 0 ≤ i → i + m = 12 → m < k → acc.length ≤ i → shutterref14_Line.l1.m KK a (ups 12 0) k acc true i = some (acc ++ ups m i) := by
  intro m
  induction m with
  | zero =>
    intro k i acc i0 i1 hk ha
    obtain ⟨k, rfl⟩ : ∃ q, k = q + 1 := ⟨k - 1, by omega⟩
    rw [shutterref14_Line.l1.m, ups_len, if_neg (by omega), ups]
    simp
  | succ m ih =>
    intro k i acc i0 i1 hk ha
    obtain ⟨k, rfl⟩ : ∃ q, k = q + 1 := ⟨k - 1, by omega⟩
    have e : at_ (ups 12 0) i = i := by rw [at_ups 12 0 i i0 (by omega)]; omega
    have go : ((app acc [at_ (ups 12 0) i]).bind fun l0 => (shutterref14_Line.l1.m KK a (ups 12 0) k l0 true (w64 (i + 1)))) = some (acc ++ ups (m + 1) i) := by
      rw [e, appk (by simp; omega), Option.bind_some, w64_id (n := i + 1) (by omega) (by omega), ih k (i + 1) _ (by omega) (by omega) (by omega) (by simp; omega), ups]
      simp
    rw [shutterref14_Line.l1.m, ups_len, if_pos (by omega)]
    simp only [letJ, cond_true]
    rw [if_pos i0, if_pos i0]
    split
    · exact go
    · exact go
theorem rline1 {a : Int} (h0 : 0 ≤ a) (h1 : a < 12) : ∀ (k : Nat) (i : Int), 0 ≤ i → i ≤ a → 12 - i < k → shutterref14_Line.l1.m KK a (ups 12 0) k [] false i = some (ups (12 - a.toNat) a) := by
  intro k
  induction k with
  | zero => intro i _ _ h; omega
  | succ k ih =>
    intro i i0 i1 hk
    have e : at_ (ups 12 0) i = i := by rw [at_ups 12 0 i i0 (by omega)]; omega
    rw [shutterref14_Line.l1.m, ups_len, if_pos (by omega)]
    simp only [letJ, cond_true, cond_false]
    rw [if_pos i0, e]
    by_cases h : i = a
    · subst h
      rw [if_pos rfl, if_pos i0, appk (by simp), Option.bind_some, w64_id (n := i + 1) (by omega) (by omega), rline2 (11 - i.toNat) k (i + 1) _ (by omega) (by omega) (by omega) (by simp; omega), show 12 - i.toNat = (11 - i.toNat) + 1 by omega, ups]
      rfl
    · rw [if_neg h, w64_id (n := i + 1) (by omega) (by omega)]
      exact ih (i + 1) (by omega) (by omega) (by omega)
theorem rline (v : U12 s) {a : Int} (h0 : 0 ≤ a) (h1 : a < 12) : shutterref14_Line.m KK s a = some (ups (12 - a.toNat) a) := by
  unfold shutterref14_Line.m
  rw [ropen v h0 h1, Option.bind_some, cond_true, rcells v h0 h1, Option.bind_some, rline1 h0 h1 KK 0 (by omega) h0 (by unfold KK; omega)]
  rfl
end
end Go.Proofs.YtjkbhpokboolpaaGreatDoor.Sx

namespace Go.Proofs.YtjkbhpokboolpaaGreatDoor.Sx
open Go
set_option maxRecDepth 100000
set_option maxHeartbeats 4000000
section
variable {s : api_Screen}
theorem c12 : ((12 : Nat) : Int) = 12 := rfl
theorem on12 (v : U12 s) {a n : Int} (h0 : 0 ≤ a) (h1 : a < 12) (n0 : -12 < n) (n1 : n < 12) : grid_On.m s a n = some ((a + n) % 12) := by
  have e : Int.tmod n 12 = n := by
    rcases Int.le_total 0 n with h | h
    · exact Int.tmod_eq_of_lt h n1
    · have := Int.tmod_eq_of_lt (a := -n) (b := 12) (by omega) (by omega)
      rw [Int.neg_tmod] at this
      omega
  unfold grid_On.m
  rw [v.n, c12, if_pos (by decide), e, w64_id (n := a + n) (by omega) (by omega), w64_id (by omega) (by omega), Int.tmod_eq_emod_of_nonneg (by omega)]
  congr 1
  omega
theorem tmod6 {c : Int} (h0 : 0 ≤ c) : Int.tmod c 6 = c % 6 := Int.tmod_eq_emod_of_nonneg h0
theorem move_lineE (v : U12 s) : move_line.m KK s = some ((s.Cursor - s.Cursor % 6 + 6) % 12) := by
  have c0 := v.u.c0; have c1 := v.lt
  have hl := v.u.len
  have e := on12 v (a := s.Cursor - s.Cursor % 6) (n := 6) (by omega) (by omega) (by omega) (by omega)
  generalize ht : (s.Cursor - s.Cursor % 6 + 6) % 12 = t at e
  have t0 : 0 ≤ t := by omega
  have t1 : t < (s.Cells.length : Int) := by rw [v.n]; omega
  obtain ⟨n0, n1⟩ := nxt_in t0 t1
  have hd : dst s.Cells.length t (nxt s.Cells.length t) + 1 = s.Cells.length := by
    unfold dst nxt
    repeat' split
    all_goals omega
  have hl0 := v.u.l0
  obtain ⟨l, el⟩ := spanU v.u t0 t1 KK [t] _ n0 n1 (by unfold KK; omega) (by simp; omega)
  unfold move_line.m grid_Span.m
  rw [v.c, if_pos (by decide), tmod6 c0, w64_id (n := s.Cursor - s.Cursor % 6) (by omega) (by omega), e, Option.bind_some, on_next hl t0 t1, Option.bind_some, el, Option.bind_some]
  simp only [Option.bind_some]
  show move_line.l1.m KK s (t :: l) (1048575 + 1) 0 = some t
  rw [move_line.l1.m, if_pos (by simp), if_pos (by omega), show at_ (t :: l) 0 = t from rfl, openU v.u t0 t1]
  rfl
theorem toE (v : U12 s) {k : Int} (h2 : 2 ≤ k) (h9 : k ≤ 9) : ∃ y, move_to.m KK s k = some y ∧ shutterref15_To.m KK s k = some y ∧ 0 ≤ y ∧ y < 12 := by
  have c0 := v.u.c0; have c1 := v.lt
  have c1' : s.Cursor < (s.Cells.length : Int) := v.u.c1
  have w1 : ∀ {x : Int}, -1000 ≤ x → x ≤ 1000 → w64 x = x := fun a b => w64_id (by omega) (by omega)
  unfold move_to.m shutterref15_To.m
  simp only [v.n, c12, v.c, v.r]
  by_cases h : k = 4
  · subst h
    refine ⟨(s.Cursor + -6) % 12, ?_, ?_, by omega, by omega⟩
    · rw [if_pos rfl, show w64 (0 - 6) = -6 from by decide, on12 v c0 c1 (by decide) (by decide)]; rfl
    · rw [if_neg (by decide), if_neg (by decide), if_pos rfl, if_pos (by decide), w1 (x := s.Cursor + 12) (by omega) (by omega), w1 (x := s.Cursor + 12 - 6) (by omega) (by omega), Int.tmod_eq_emod_of_nonneg (by omega)]
      congr 1; omega
  by_cases h' : k = 2
  · subst h'
    refine ⟨(s.Cursor + -1) % 12, ?_, ?_, by omega, by omega⟩
    · rw [if_neg (by decide), if_pos rfl, show w64 (0 - 1) = -1 from by decide, on12 v c0 c1 (by decide) (by decide)]; rfl
    · rw [if_pos rfl, if_pos (by decide), w1 (x := s.Cursor + 12) (by omega) (by omega), w1 (x := s.Cursor + 12 - 1) (by omega) (by omega), Int.tmod_eq_emod_of_nonneg (by omega)]
      congr 1; omega
  by_cases h5 : k = 5
  · subst h5
    refine ⟨(s.Cursor + 6) % 12, ?_, ?_, by omega, by omega⟩
    · rw [if_neg (by decide), if_neg (by decide), if_pos rfl, on12 v c0 c1 (by decide) (by decide)]; rfl
    · rw [if_neg (by decide), if_neg (by decide), if_neg (by decide), if_pos rfl, if_pos (by decide), w1 (by omega) (by omega), Int.tmod_eq_emod_of_nonneg (by omega)]
  by_cases h3 : k = 3
  · subst h3
    refine ⟨(s.Cursor + 1) % 12, ?_, ?_, by omega, by omega⟩
    · rw [if_neg (by decide), if_neg (by decide), if_neg (by decide), if_pos rfl, on12 v c0 c1 (by decide) (by decide)]; rfl
    · rw [if_neg (by decide), if_pos rfl, if_pos (by decide), w1 (by omega) (by omega), Int.tmod_eq_emod_of_nonneg (by omega)]
  by_cases h7 : k = 7
  · subst h7
    refine ⟨0, ?_, ?_, by omega, by omega⟩
    · rw [if_neg (by decide), if_neg (by decide), if_neg (by decide), if_neg (by decide), if_pos rfl, prevU v.u c0 c1']; rfl
    · rw [if_neg (by decide), if_neg (by decide), if_neg (by decide), if_neg (by decide), if_neg (by decide), if_pos rfl, rprev v c0 c1]; rfl
  by_cases h6 : k = 6
  · subst h6
    refine ⟨0, ?_, ?_, by omega, by omega⟩
    · rw [if_neg (by decide), if_neg (by decide), if_neg (by decide), if_neg (by decide), if_neg (by decide), if_pos rfl, nextU v.u c0 c1']; rfl
    · rw [if_neg (by decide), if_neg (by decide), if_neg (by decide), if_neg (by decide), if_pos rfl, rnext v c0 c1]; rfl
  by_cases h8 : k = 8
  · subst h8
    refine ⟨0, ?_, ?_, by omega, by omega⟩
    · rw [if_neg (by decide), if_neg (by decide), if_neg (by decide), if_neg (by decide), if_neg (by decide), if_neg (by decide), if_pos rfl, w1 (by omega) (by omega), nextU v.u (by omega) (by rw [v.n]; omega)]; rfl
    · rw [if_neg (by decide), if_neg (by decide), if_neg (by decide), if_neg (by decide), if_neg (by decide), if_neg (by decide), if_pos rfl, w1 (by omega) (by omega), rnext v (by omega) (by omega)]; rfl
  obtain rfl : k = 9 := by omega
  refine ⟨(s.Cursor - s.Cursor % 6 + 6) % 12, ?_, ?_, by omega, by omega⟩
  · rw [if_neg (by decide), if_neg (by decide), if_neg (by decide), if_neg (by decide), if_neg (by decide), if_neg (by decide), if_neg (by decide), move_lineE v]; rfl
  · rw [if_neg (by decide), if_neg (by decide), if_neg (by decide), if_neg (by decide), if_neg (by decide), if_neg (by decide), if_neg (by decide), if_pos (by decide), if_pos (by decide)]
    show shutterref15_To.l1.m KK s (1048575 + 1) 0 = _
    have e1 : Int.tdiv s.Cursor 6 = s.Cursor / 6 := Int.tdiv_eq_ediv_of_nonneg c0
    have f : Int.tmod (w64 (w64 (Int.tmod (w64 (w64 (Int.tdiv s.Cursor 6) + 1)) 2 * 6) + 0)) 12 = (s.Cursor - s.Cursor % 6 + 6) % 12 := by
      rw [e1, w1 (x := s.Cursor / 6) (by omega) (by omega), w1 (x := s.Cursor / 6 + 1) (by omega) (by omega), Int.tmod_eq_emod_of_nonneg (a := s.Cursor / 6 + 1) (by omega), w1 (x := (s.Cursor / 6 + 1) % 2 * 6) (by omega) (by omega), w1 (by omega) (by omega), Int.tmod_eq_emod_of_nonneg (by omega)]
      omega
    rw [shutterref15_To.l1.m]
    simp only [v.n, c12, v.c, v.r, f]
    rw [if_pos (by decide), if_pos (by decide), ropen v (by omega) (by omega)]
    rfl
theorem moveL (v : U12 s) {k : Int} (h2 : 2 ≤ k) (h9 : k ≤ 9) : ∃ t e w, move_Do.m KK s k = some (t, e) ∧ shutterref15_Do.m KK s k = some (t, w) ∧ codeOf e = w ∧ U12 t := by
  have hm : move_Moves.m k = some true := by unfold move_Moves.m; rw [if_pos h2, decide_eq_true h9]
  unfold move_Do.m shutterref15_Do.m
  rw [hm, Option.bind_some, cond_true, if_neg (by omega), if_neg (by omega)]
  cases s.Locked with
  | true => exact ⟨s, .no 7, 7, rfl, rfl, rfl, v⟩
  | false =>
    obtain ⟨y, e1, e2, y0, y1⟩ := toE v h2 h9
    rw [cond_false, cond_false, copyU v.u, Option.bind_some, e1, rcopyU v.u, Option.bind_some, e2]
    exact ⟨_, .nil, 0, rfl, rfl, rfl, v.with v.u.co y0 y1 _ _⟩
theorem setz {x : List api_Cell} {n : Nat} (h : CO n x) {i : Int} (i0 : 0 ≤ i) (i1 : i < (n : Int)) : x.set i.toNat (⟨(at_ x i).Field, (⟨((at_ x i).Attr).Protected, ((at_ x i).Attr).Numeric, ((at_ x i).Attr).Show, false⟩ : api_Attr), (at_ x i).Char⟩ : api_Cell) = x := by
  have q := h.at i0 i1
  have hi : i.toNat < x.length := by rw [h.1]; omega
  have e : (⟨(at_ x i).Field, (⟨((at_ x i).Attr).Protected, ((at_ x i).Attr).Numeric, ((at_ x i).Attr).Show, false⟩ : api_Attr), (at_ x i).Char⟩ : api_Cell) = x[i.toNat] := by
    rw [q.2.1]
    have : at_ x i = x[i.toNat] := at_eq (hi := hi)
    rw [← this]
    have h2 := q.2.1
    cases hc : at_ x i with
    | mk f a c => rw [hc] at h2; simp only at h2; rw [h2]
  rw [e, List.set_getElem_self]
theorem resetE {n : Nat} {t : api_Screen} (ht : t.Cells.length = n) (hn : n ≤ 200) {x : List api_Cell} (hx : CO n x) : ∀ (k : Nat) (i : Int), 0 ≤ i → i ≤ (n : Int) → (n : Int) - i < k → host_Reset.l1.m KK false t k x i = some x := by
  intro k
  induction k with
  | zero => intro i _ _ h; omega
  | succ k ih =>
    intro i i0 i1 hk
    rw [host_Reset.l1.m]
    simp only [letJ]
    by_cases h3 : i < (n : Int)
    · have q := hx.at i0 h3
      rw [if_pos (by rw [ht]; exact h3), cond_true, if_pos i0, if_pos (by rw [hx.1]; exact h3), cond_false, setz hx i0 h3, q.2.1, cond_false, w64_id (n := i + 1) (by omega) (by omega)]
      exact ih (i + 1) (by omega) (by omega) (by omega)
    · rw [if_neg (by rw [ht]; exact h3), cond_false]
theorem rreset_l (u : US s) {t : api_Screen} (ht : t.Cells.length = s.Cells.length) : ∀ (k : Nat) (i : Int), 0 ≤ i → i ≤ (s.Cells.length : Int) → (s.Cells.length : Int) - i < k → shutterref13_Reset.l1.m KK s t k i = some () := by
  have hl := u.len
  intro k
  induction k with
  | zero => intro i _ _ h; omega
  | succ k ih =>
    intro i i0 i1 hk
    rw [shutterref13_Reset.l1.m, ht]
    by_cases h3 : i < (s.Cells.length : Int)
    · rw [if_pos h3, if_pos i0, if_pos h3, (u.at i0 h3).1, cond_false, w64_id (n := i + 1) (by omega) (by omega)]
      exact ih (i + 1) (by omega) (by omega) (by omega)
    · rw [if_neg h3]
theorem wipe_lk (v : U12 s) : ∀ (k : Nat) (i : Int) (x : List api_Cell), 0 ≤ i → i ≤ 12 → 12 - i < k → CO s.Cells.length x → shutterref13_Do.l1.m KK s k i x = wipe_all.l1.m KK s k i x := by
  intro k
  induction k with
  | zero => intro i x _ _ h; omega
  | succ k ih =>
    intro i x i0 i1 hk hx
    rw [wipe_all.l1.m, shutterref13_Do.l1.m]
    simp only [letJ]
    by_cases h3 : i < (s.Cells.length : Int)
    · have h12 : i < 12 := by rw [v.n] at h3; exact h3
      rw [if_pos h3, if_pos h3, cond_true, openU v.u i0 h3, ropen v i0 h12, Option.bind_some, Option.bind_some, cond_true, cond_true, if_pos i0, if_pos i0, if_pos (by rw [hx.1]; exact h3), if_pos (by rw [hx.1]; exact h3), w64_id (n := i + 1) (by omega) (by omega)]
      exact ih (i + 1) _ (by omega) (by omega) (by omega) (hx.set (hx.at i0 h3).zero)
    · rw [if_neg h3, if_neg h3, cond_false]
theorem wipe2_lk (u : US s) (q : Int) {l : List Int} (hl : l.length ≤ 200) (hin : ∀ x ∈ l, 0 ≤ x ∧ x < (s.Cells.length : Int)) : ∀ (k : Nat) (i : Int) (x : List api_Cell), 0 ≤ i → i ≤ (l.length : Int) → (l.length : Int) - i < k → CO s.Cells.length x →
    shutterref16_Do.l1.m KK s q l k i x = wipe_Do.l1.m KK s q l k i x := by
  intro k
  induction k with
  | zero => intro i x _ _ h; omega
  | succ k ih =>
    intro i x i0 i1 hk hx
    rw [wipe_Do.l1.m, shutterref16_Do.l1.m]
    simp only [letJ]
    by_cases h3 : i < (l.length : Int)
    · have hw : w64 (i + 1) = i + 1 := w64_id (by omega) (by omega)
      have a := hin _ (at_mem i0 h3)
      have a' : at_ l i < (x.length : Int) := by rw [hx.1]; exact a.2
      have h1 := hx.set (i := (at_ l i).toNat) (hx.at a.1 a.2).zero
      have stop := ih (i + 1) (x.set (at_ l i).toNat (⟨(at_ x (at_ l i)).Field, ((at_ x (at_ l i)).Attr), 0⟩ : api_Cell)) (by omega) (by omega) (by omega) h1
      have i1' : 0 ≤ i + 1 := by omega
      simp only [h3, i0, a.1, a', hw, if_true, cond_true]
      by_cases h12 : q = 12
      · by_cases h4 : i + 1 < (l.length : Int)
        · have b := hin _ (at_mem (l := l) (i := i + 1) (by omega) h4)
          have hat : at_ (x.set (at_ l i).toNat (⟨(at_ x (at_ l i)).Field, ((at_ x (at_ l i)).Attr), 0⟩ : api_Cell)) (at_ l i) = ⟨(at_ x (at_ l i)).Field, ((at_ x (at_ l i)).Attr), 0⟩ := by
            have hi : (at_ l i).toNat < (x.set (at_ l i).toNat (⟨(at_ x (at_ l i)).Field, ((at_ x (at_ l i)).Attr), 0⟩ : api_Cell)).length := by rw [List.length_set]; omega
            rw [at_eq (hi := hi), List.getElem_set_self]
          have nx := ih (i + 1) (x.set (at_ l i).toNat (⟨(at_ x (at_ l i)).Field, ((at_ x (at_ l i)).Attr), (at_ s.Cells (at_ l (i + 1))).Char⟩ : api_Cell)) (by omega) (by omega) (by omega) (hx.set ((hx.at a.1 a.2).copy (u.at b.1 b.2)))
          simp only [if_pos h12, h4, i1', b.1, b.2, a.1, a', List.length_set, if_true, cond_true, hat, List.set_set]
          exact nx
        · simp only [if_pos h12, h4, if_false, cond_false, a.1, a', i0, if_true]
          exact stop
      · simp only [if_neg h12, cond_false, a.1, a', i0, if_true]
        exact stop
    · simp only [h3, if_false, cond_false]
theorem rclear (v : U12 s) {z : List api_Cell} (e : shutterref13_Do.l1.m KK s KK 0 s.Cells = some z) : shutterref13_Do.m KK s ⟨111, ⟨false, false, false⟩, []⟩ = some ⟨s.Rows, s.Cols, z, 0, false, false⟩ := by
  have hl := v.u.len
  have e1 : shutterref13_Reset.m KK s false = some s := by
    unfold shutterref13_Reset.m
    simp only [rcopyU v.u, Option.bind_some, rreset_l v.u rfl KK 0 (by omega) (by omega) (by unfold KK; omega)]
  unfold shutterref13_Do.m
  simp only [rcopyU v.u, Option.bind_some, show ¬ ((111 : Int) = 242) from by decide, show ¬ ((111 : Int) = 246) from by decide, if_true, if_false, e1, e, v.n, c12, show w64 (12 - 1) = 11 from by decide, rnext v (a := 11) (by omega) (by omega), show ((-1 : Int) < 0) from by decide]
theorem wipeL (v : U12 s) {k : Int} (h2 : 12 ≤ k) (h9 : k ≤ 14) : ∃ t e w a, wipe_Do.m KK s k = some (t, e) ∧ shutterref16_Do.m KK s k = some (t, w, a) ∧ codeOf e = w ∧ U12 t := by
  have c0 := v.u.c0; have c1 := v.lt; have hl := v.u.len; have l0 := v.u.l0
  have hm : wipe_Wipes.m k = some true := by unfold wipe_Wipes.m; rw [if_pos h2, decide_eq_true h9]
  have k1 : ¬ k < 12 := by omega
  have k2 : ¬ k > 14 := by omega
  unfold wipe_Do.m shutterref16_Do.m
  simp only [letJ, hm, Option.bind_some, cond_true, if_neg k1, if_neg k2]
  cases hL : s.Locked with
  | true => exact ⟨s, .no 7, 7, -1, rfl, rfl, rfl, v⟩
  | false =>
    simp only [cond_false]
    by_cases h : k = 14
    · obtain ⟨z, e2, h2'⟩ := wipe_lU v.u KK 0 s.Cells (by omega) (by omega) (by unfold KK; omega) v.u.co
      have e2r := (wipe_lk v KK 0 s.Cells (by omega) (by omega) (by unfold KK; omega) v.u.co).trans e2
      refine ⟨⟨s.Rows, s.Cols, z, 0, false, s.Insert⟩, .nil, 0, -1, ?_, ?_, rfl, v.with h2' (by omega) (by omega) _ _⟩
      · simp only [if_pos h]
        unfold wipe_all.m host_Reset.m grid_Size.m
        simp only [copyU v.u, Option.bind_some, resetE (t := s) rfl hl v.u.co KK 0 (by omega) (by omega) (by unfold KK; omega), e2, w64_id (n := (s.Cells.length : Int) - 1) (by omega) (by omega), nextU v.u (a := (s.Cells.length : Int) - 1) (by omega) (by omega), mx0, hL]
      · simp only [if_pos h, rclear v e2r, Option.bind_some]
    · have hin : ∀ x ∈ ups (12 - s.Cursor.toNat) s.Cursor, 0 ≤ x ∧ x < (s.Cells.length : Int) := fun x hx => by
        have := ups_in _ _ x hx
        rw [v.n]; omega
      have hll : (ups (12 - s.Cursor.toNat) s.Cursor).length ≤ 200 := by rw [ups_len]; omega
      obtain ⟨y, ey, hy⟩ := wipe_loop v.u k hll hin KK 0 s.Cells (by omega) (by omega) (by unfold KK; omega) v.u.co
      have eyr := (wipe2_lk v.u k hll hin KK 0 s.Cells (by omega) (by omega) (by unfold KK; omega) v.u.co).trans ey
      simp only [if_neg h, openU v.u c0 v.u.c1, ropen v c0 c1, Option.bind_some, cond_true, line_exact v c0 c1, modifyU v.u c0 v.u.c1, ey, rmodify v c0 c1, rcopyU v.u, rline v c0 c1, eyr]
      exact ⟨_, .nil, 0, -1, rfl, rfl, rfl, v.with hy c0 c1 _ _⟩
end
end Go.Proofs.YtjkbhpokboolpaaGreatDoor.Sx

namespace Go.Proofs.YtjkbhpokboolpaaGreatDoor.Sx
open Go
set_option maxRecDepth 100000
set_option maxHeartbeats 4000000
theorem at_set {x : List api_Cell} {i c : Int} {v : api_Cell} (i0 : 0 ≤ i) (i1 : i < (x.length : Int)) (c0 : 0 ≤ c) : at_ (x.set i.toNat v) c = if c = i then v else at_ x c := by
  unfold at_
  rw [List.getD_eq_getElem?_getD, List.getElem?_set, List.getD_eq_getElem?_getD]
  by_cases h : c = i
  · subst h
    rw [if_pos rfl, if_pos rfl, if_pos (by omega)]; rfl
  · rw [if_neg h, if_neg (by omega)]
theorem at_ext {x y : List api_Cell} (hl : x.length = y.length) (h : ∀ c : Int, 0 ≤ c → c < (x.length : Int) → at_ x c = at_ y c) : x = y := by
  refine List.ext_getElem hl fun n h1 h2 => ?_
  have q := h n (by omega) (by omega)
  rw [at_eq (l := x) (hi := by simpa using h1), at_eq (l := y) (hi := by simpa using h2)] at q
  simpa using q
theorem okC.is {c : api_Cell} (h : okC c) : (⟨c.Field, c.Attr, c.Char⟩ : api_Cell) = c := rfl
theorem okC.eq {c d : api_Cell} (h : okC c) (g : okC d) : (⟨c.Field, c.Attr, d.Char⟩ : api_Cell) = d := by
  cases c; cases d
  have h1 := h.1; have h2 := h.2.1; have g1 := g.1; have g2 := g.2.1
  simp only at h1 h2 g1 g2
  subst h1; subst h2; subst g1; subst g2; rfl
section
variable {s : api_Screen}
def Fr (s : api_Screen) (p m f : Int) : Prop := (f = -1 ∧ ∀ i, 0 ≤ i → i < m → (at_ s.Cells (p + i)).Char ≠ 0) ∨ (0 ≤ f ∧ f < m ∧ (at_ s.Cells (p + f)).Char = 0 ∧ ∀ i, 0 ≤ i → i < f → (at_ s.Cells (p + i)).Char ≠ 0)
theorem freeF (v : U12 s) {p : Int} (p0 : 0 ≤ p) (p1 : p < 12) : ∃ f, slices_IndexFunc_int__edit_pushed_1.m KK (ups (12 - p.toNat) p) s = some f ∧ Fr s p (12 - p) f := by
  have go : ∀ (k : Nat) (i : Int), 0 ≤ i → i ≤ 12 - p → 12 - p - i < k → (∀ j, 0 ≤ j → j < i → (at_ s.Cells (p + j)).Char ≠ 0) →
      ∃ f, ((slices_IndexFunc_int__edit_pushed_1.l1.m KK (ups (12 - p.toNat) p) s k i).bind fun s0 => match s0 with | .inl q => (some q) | .inr _ => (some (-1))) = some f ∧ Fr s p (12 - p) f := by
    intro k
    induction k with
    | zero => intro i _ _ h; omega
    | succ k ih =>
      intro i i0 i1 hk hs
      rw [slices_IndexFunc_int__edit_pushed_1.l1.m]
      simp only [letJ, ups_len]
      by_cases h3 : i < 12 - p
      · have e : at_ (ups (12 - p.toNat) p) i = p + i := at_ups _ p i i0 (by omega)
        unfold edit_pushed_1.m
        rw [if_pos (by omega), cond_true, if_pos i0, if_pos (by omega), e, if_pos (by omega), if_pos (by rw [v.n]; omega), Option.bind_some]
        by_cases hc : (at_ s.Cells (p + i)).Char = 0
        · rw [hc]
          exact ⟨i, rfl, .inr ⟨i0, h3, hc, hs⟩⟩
        · rw [show ((at_ s.Cells (p + i)).Char == 0) = false by simpa using hc, cond_false, w64_id (n := i + 1) (by omega) (by omega)]
          refine ih (i + 1) (by omega) (by omega) (by omega) fun j j0 j1 => ?_
          by_cases ej : j = i
          · subst ej; exact hc
          · exact hs j j0 (by omega)
      · rw [if_neg (by omega), cond_false]
        exact ⟨-1, rfl, .inl ⟨rfl, fun j j0 j1 => hs j j0 (by omega)⟩⟩
  unfold slices_IndexFunc_int__edit_pushed_1.m
  exact go KK 0 (by omega) (by omega) (by unfold KK; omega) fun j j0 j1 => by omega
theorem freeR (v : U12 s) {p : Int} (p0 : 0 ≤ p) (p1 : p < 12) {f : Int} (hf : Fr s p (12 - p) f) : ∀ (k : Nat) (x y : Int), -1 ≤ x → x < 12 - p → x + 1 < k →
    ((y = -1 ∧ (∀ i, x < i → i < 12 - p → (at_ s.Cells (p + i)).Char ≠ 0)) ∨ (x < y ∧ y < 12 - p ∧ (at_ s.Cells (p + y)).Char = 0 ∧ ∀ i, x < i → i < y → (at_ s.Cells (p + i)).Char ≠ 0)) →
    shutterref14_Type.l1.m KK s (ups (12 - p.toNat) p) k y x = some f := by
  intro k
  induction k with
  | zero => intro x y _ _ h; omega
  | succ k ih =>
    intro x y x0 x1 hk hy
    rw [shutterref14_Type.l1.m]
    by_cases h3 : x ≥ 0
    · have e : at_ (ups (12 - p.toNat) p) x = p + x := at_ups _ p x h3 (by omega)
      rw [if_pos h3, if_pos (by omega), if_pos (by rw [ups_len]; omega), e, if_pos (by omega), if_pos (by rw [v.n]; omega), w64_id (n := x - 1) (by omega) (by omega)]
      by_cases hc : (at_ s.Cells (p + x)).Char = 0
      · rw [if_pos hc]
        exact ih (x - 1) x (by omega) (by omega) (by omega) (.inr ⟨by omega, x1, hc, fun i a b => by omega⟩)
      · rw [if_neg hc]
        refine ih (x - 1) y (by omega) (by omega) (by omega) ?_
        rcases hy with ⟨rfl, h⟩ | ⟨a, b, c, d⟩
        · refine .inl ⟨rfl, fun i i0 i1 => ?_⟩
          by_cases ei : i = x
          · subst ei; exact hc
          · exact h i (by omega) i1
        · refine .inr ⟨by omega, b, c, fun i i0 i1 => ?_⟩
          by_cases ei : i = x
          · subst ei; exact hc
          · exact d i (by omega) i1
    · rw [if_neg h3]
      congr 1
      rcases hy with ⟨rfl, h⟩ | ⟨a, b, c, d⟩
      · rcases hf with ⟨e, _⟩ | ⟨f0, f1, fc, _⟩
        · exact e.symm
        · exact absurd fc (h f (by omega) f1)
      · rcases hf with ⟨e, g⟩ | ⟨f0, f1, fc, fd⟩
        · exact absurd c (g y (by omega) b)
        · by_cases l : y < f
          · exact absurd c (fd y (by omega) l)
          · by_cases l' : f < y
            · exact absurd fc (d f (by omega) l')
            · omega
theorem pushF (v : U12 s) {p f : Int} (p0 : 0 ≤ p) (f1 : f < 12 - p) : ∀ (k : Nat) (i : Int) (x : List api_Cell), 0 ≤ i → i ≤ f → i < k → x.length = 12 → (∀ c, 0 ≤ c → c < 12 → at_ x c = if p + i < c ∧ c ≤ p + f then at_ s.Cells (c - 1) else at_ s.Cells c) →
    ∃ y, edit_pushed.l1.m KK (ups (12 - p.toNat) p) k i x = some y ∧ y.length = 12 ∧ (∀ c, 0 ≤ c → c < 12 → at_ y c = if p < c ∧ c ≤ p + f then at_ s.Cells (c - 1) else at_ s.Cells c) := by
  intro k
  induction k with
  | zero => intro i x _ _ h; omega
  | succ k ih =>
    intro i x i0 i1 hk hx hat
    rw [edit_pushed.l1.m]
    by_cases h : i > 0
    · have hw : w64 (i - 1) = i - 1 := w64_id (by omega) (by omega)
      have e : at_ (ups (12 - p.toNat) p) i = p + i := at_ups _ p i i0 (by omega)
      have e' : at_ (ups (12 - p.toNat) p) (i - 1) = p + (i - 1) := at_ups _ p (i - 1) (by omega) (by omega)
      rw [if_pos h, if_pos i0, ups_len, if_pos (by omega), hw, if_pos (by omega), if_pos (by omega), e', if_pos (by omega), hx, if_pos (by omega), e, if_pos (by omega), if_pos (by omega)]
      refine ih (i - 1) _ (by omega) (by omega) (by omega) (by rw [List.length_set]; exact hx) fun c c0 c1 => ?_
      rw [at_set (by omega) (by omega) c0]
      by_cases ec : c = p + i
      · rw [if_pos ec, if_pos (by omega), hat (p + (i - 1)) (by omega) (by omega), if_neg (by omega), ec, show p + i - 1 = p + (i - 1) by omega]
      · rw [if_neg ec, hat c c0 c1]
        by_cases h2 : p + i < c ∧ c ≤ p + f
        · rw [if_pos h2, if_pos (by omega)]
        · rw [if_neg h2, if_neg (by omega)]
    · rw [if_neg h]
      obtain rfl : i = 0 := by omega
      refine ⟨x, rfl, hx, fun c c0 c1 => ?_⟩
      have := hat c c0 c1
      rw [show p + 0 = p by omega] at this; exact this
theorem pushR (v : U12 s) {p f : Int} (p0 : 0 ≤ p) (f1 : f < 12 - p) : ∀ (k : Nat) (i : Int) (x : List api_Cell), 1 ≤ i → i ≤ f + 1 → f + 1 - i < k → x.length = 12 → (∀ c, 0 ≤ c → c < 12 → at_ x c = if p < c ∧ c < p + i then at_ s.Cells (c - 1) else at_ s.Cells c) →
    ∃ y, shutterref14_Type.l2.m KK s (ups (12 - p.toNat) p) f k i x = some y ∧ y.length = 12 ∧ (∀ c, 0 ≤ c → c < 12 → at_ y c = if p < c ∧ c ≤ p + f then at_ s.Cells (c - 1) else at_ s.Cells c) := by
  intro k
  induction k with
  | zero => intro i x _ _ h; omega
  | succ k ih =>
    intro i x i0 i1 hk hx hat
    rw [shutterref14_Type.l2.m]
    by_cases h : i ≤ f
    · have hw : w64 (i - 1) = i - 1 := w64_id (by omega) (by omega)
      have hw' : w64 (i + 1) = i + 1 := w64_id (by omega) (by omega)
      have e : at_ (ups (12 - p.toNat) p) i = p + i := at_ups _ p i (by omega) (by omega)
      have e' : at_ (ups (12 - p.toNat) p) (i - 1) = p + (i - 1) := at_ups _ p (i - 1) (by omega) (by omega)
      have o : ∀ c, 0 ≤ c → c < 12 → okC (at_ s.Cells c) := fun c a b => v.u.at a (by rw [v.n]; exact b)
      rw [if_pos h, if_pos (by omega), ups_len, if_pos (by omega), hw, if_pos (by omega), if_pos (by omega), e', if_pos (by omega), v.n, if_pos (by omega), e, if_pos (by omega), hx, if_pos (by omega), hw']
      refine ih (i + 1) _ (by omega) (by omega) (by omega) (by rw [List.length_set]; exact hx) fun c c0 c1 => ?_
      rw [at_set (by omega) (by omega) c0]
      by_cases ec : c = p + i
      · rw [if_pos ec, if_pos (by omega), hat (p + i) (by omega) (by omega), if_neg (by omega), (o _ (by omega) (by omega)).eq (o _ (by omega) (by omega)), ec, show p + i - 1 = p + (i - 1) by omega]
      · rw [if_neg ec, hat c c0 c1]
        by_cases h2 : p < c ∧ c < p + i
        · rw [if_pos h2, if_pos (by omega)]
        · rw [if_neg h2, if_neg (by omega)]
    · rw [if_neg h]
      obtain rfl : i = f + 1 := by omega
      refine ⟨x, rfl, hx, fun c c0 c1 => ?_⟩
      have := hat c c0 c1
      by_cases h2 : p < c ∧ c ≤ p + f
      · rw [this, if_pos (by omega), if_pos h2]
      · rw [this, if_neg (by omega), if_neg h2]
theorem insert_eq (v : U12 s) {p : Int} (p0 : 0 ≤ p) (p1 : p < 12) : ∃ f, shutterref14_Type.l1.m KK s (ups (12 - p.toNat) p) KK (-1) (11 - p) = some f ∧
    ((f < 0 ∧ edit_pushed.m KK s (ups (12 - p.toNat) p) = some (false, s.Cells)) ∨
     (¬ f < 0 ∧ ∃ y, edit_pushed.m KK s (ups (12 - p.toNat) p) = some (true, y) ∧ shutterref14_Type.l2.m KK s (ups (12 - p.toNat) p) f KK 1 s.Cells = some y ∧ CO s.Cells.length y)) := by
  obtain ⟨f, e, hf⟩ := freeF v p0 p1
  refine ⟨f, freeR v p0 p1 hf KK (11 - p) (-1) (by omega) (by omega) (by unfold KK; omega) (.inl ⟨rfl, fun i a b => by omega⟩), ?_⟩
  unfold edit_pushed.m
  rw [e, Option.bind_some]
  rcases hf with ⟨rfl, _⟩ | ⟨f0, f1, _, _⟩
  · exact .inl ⟨by decide, by rw [if_pos (by decide)]⟩
  · have n := v.n
    obtain ⟨y, e1, l1, a1⟩ := pushF v p0 f1 KK f s.Cells f0 (by omega) (by unfold KK; omega) n fun c c0 c1 => by rw [if_neg (by omega)]
    obtain ⟨z, e2, l2, a2⟩ := pushR v p0 f1 KK 1 s.Cells (by omega) (by omega) (by unfold KK; omega) n fun c c0 c1 => by rw [if_neg (by omega)]
    obtain rfl : y = z := at_ext (l1.trans l2.symm) fun c c0 c1 => by rw [a1 c c0 (by omega), a2 c c0 (by omega)]
    refine .inr ⟨by omega, y, by rw [if_neg (by omega), e1]; rfl, e2, ?_⟩
    refine ⟨l1.trans n.symm, fun c hc => ?_⟩
    obtain ⟨i, hi, rfl⟩ := List.getElem_of_mem hc
    have q := a1 i (by omega) (by omega)
    rw [at_eq (hi := by simpa using hi)] at q
    have q' : y[i] = if p < (i : Int) ∧ (i : Int) ≤ p + f then at_ s.Cells ((i : Int) - 1) else at_ s.Cells (i : Int) := by simpa using q
    rw [q']
    split
    · exact v.u.at (by omega) (by rw [n]; omega)
    · exact v.u.at (by omega) (by rw [n]; omega)
end
end Go.Proofs.YtjkbhpokboolpaaGreatDoor.Sx

namespace Go.Proofs.YtjkbhpokboolpaaGreatDoor.Sx
open Go
set_option maxRecDepth 100000
set_option maxHeartbeats 4000000
theorem letter_K {b : Int} (h0 : 0 ≤ b) (h1 : b ≤ 255) : shutterref09_Letter.m b = some (ltr b) := by
  unfold shutterref09_Letter.m shutterref05_Char.m ltr chr
  by_cases e : b = 0
  · subst e; rfl
  · rw [if_neg e, if_neg e]
    by_cases e1 : b = 28
    · subst e1; rfl
    · rw [if_neg e1]
      by_cases e2 : b = 30
      · subst e2; rfl
      · rw [if_neg e2]
        by_cases e3 : b ≥ 64
        · rw [if_pos e3, Option.bind_some]
          congr 1
          rw [Bool.eq_iff_iff]
          simp
          omega
        · rw [if_neg e3, Option.bind_some]
          congr 1
          rw [Bool.eq_iff_iff]
          simp
          omega
section
variable {s : api_Screen}
theorem rnext10 (v : U12 s) : shutterref10_Next.m s s.Cursor = some (nxt s.Cells.length s.Cursor) := by
  have c0 := v.u.c0; have c1 := v.lt
  unfold shutterref10_Next.m nxt
  rw [v.n, c12, w64_id (n := s.Cursor + 1) (by omega) (by omega)]
  split <;> rfl
theorem putL (v : U12 s) {c : Int} (wc : Wf .u8 c) (hc : ltr c = true) {x : List api_Cell} (hx : CO s.Cells.length x) : ∃ t, U12 t ∧
    (if 0 ≤ s.Cursor then (if s.Cursor < (x.length : Int) then ((edit_onward.m KK (⟨s.Rows, s.Cols, (x.set s.Cursor.toNat (⟨false, (⟨false, false, 0, false⟩ : api_Attr), c⟩ : api_Cell)), s.Cursor, s.Locked, s.Insert⟩ : api_Screen)).bind fun t6 => (some ((⟨s.Rows, s.Cols, (x.set s.Cursor.toNat (⟨false, (⟨false, false, 0, false⟩ : api_Attr), c⟩ : api_Cell)), t6, s.Locked, s.Insert⟩ : api_Screen), GoErr.nil))) else none) else none) = some (t, GoErr.nil) ∧
    (if 0 ≤ s.Cursor then (if s.Cursor < (x.length : Int) then ((shutterref10_Next.m s s.Cursor).bind fun t1 => (if 0 ≤ t1 then (if t1 < ((x.set s.Cursor.toNat (⟨(at_ x s.Cursor).Field, ((at_ x s.Cursor).Attr), c⟩ : api_Cell)).length : Int) then (bif (at_ (x.set s.Cursor.toNat (⟨(at_ x s.Cursor).Field, ((at_ x s.Cursor).Attr), c⟩ : api_Cell)) t1).Field then none else (some ((⟨s.Rows, s.Cols, (x.set s.Cursor.toNat (⟨(at_ x s.Cursor).Field, ((at_ x s.Cursor).Attr), c⟩ : api_Cell)), t1, s.Locked, s.Insert⟩ : api_Screen), (0 : Int), (-1 : Int)))) else none) else none)) else none) else none) = some (t, 0, -1) := by
  have c0 := v.u.c0; have c1 := v.u.c1
  have okc : okC ⟨false, ⟨false, false, 0, false⟩, c⟩ := ⟨rfl, rfl, wc, .inr hc⟩
  have hy := hx.set (i := s.Cursor.toNat) okc
  obtain ⟨n0, n1⟩ := nxt_in c0 c1
  have hN := v.u.with hy c0 c1 s.Rows s.Locked s.Insert
  have o := hx.at c0 c1
  have hl : s.Cursor < (x.length : Int) := by rw [hx.1]; exact c1
  refine ⟨⟨s.Rows, s.Cols, x.set s.Cursor.toNat ⟨false, ⟨false, false, 0, false⟩, c⟩, nxt s.Cells.length s.Cursor, s.Locked, s.Insert⟩, v.with hy n0 (by have := v.n; omega) _ _, ?_, ?_⟩
  · rw [if_pos c0, if_pos hl, onwardU hN.1]
    simp only [hy.1, Option.bind_some]
  · have of : (at_ (x.set s.Cursor.toNat (⟨false, ⟨false, false, 0, false⟩, c⟩ : api_Cell)) (nxt s.Cells.length s.Cursor)).Field = false := (hy.at n0 n1).1
    rw [if_pos c0, if_pos hl, rnext10 v, Option.bind_some, o.1, o.2.1, if_pos n0, if_pos (by rw [hy.1]; exact n1), of, cond_false]
theorem typeL (v : U12 s) {c : Int} (wc : Wf .u8 c) (c0' : 0 ≤ c) (c1' : c ≤ 255) : ∃ t e w a, edit_Type.m KK s c = some (t, e) ∧ shutterref14_Type.m KK s c = some (t, w, a) ∧ codeOf e = w ∧ U12 t ∧ (e = .nil ↔ w = 0) := by
  have c0 := v.u.c0; have c1 := v.lt; have c1u := v.u.c1
  unfold edit_Type.m shutterref14_Type.m
  rw [letter_K c0' c1', Option.bind_some]
  simp only [letJ]
  by_cases cz : c = 0
  · subst cz
    rw [if_pos rfl]
    exact ⟨s, .no 3, 3, -1, rfl, rfl, rfl, v, by decide⟩
  rw [if_neg cz, char_eq, Option.bind_some]
  have lc : ltr c = chr c := by unfold ltr; rw [show (c != 0) = true by simpa using cz]; rfl
  rw [lc]
  cases cc : chr c with
  | false => exact ⟨s, .no 3, 3, -1, rfl, rfl, rfl, v, by decide⟩
  | true =>
    simp only [cond_true, cond_false]
    cases hL : s.Locked with
    | true => exact ⟨s, .no 7, 7, -1, rfl, rfl, rfl, v, by decide⟩
    | false =>
      simp only [cond_false, fitsU v.u, Option.bind_some, if_true, modifyU v.u c0 c1u, ropen v c0 c1, cond_true, rof v c0 c1, rmodify v c0 c1]
      cases hI : s.Insert with
      | false =>
        obtain ⟨t, ht, e1, e2⟩ := putL v wc (lc.trans cc) v.u.co
        rw [hI] at e1 e2
        simp only [cond_false]
        exact ⟨t, .nil, 0, -1, e1, e2, rfl, ht, by decide⟩
      | true =>
        obtain ⟨f, ef, h⟩ := insert_eq v c0 c1
        have ef' : shutterref14_Type.l1.m KK s (ups (12 - s.Cursor.toNat) s.Cursor) KK (-1) (w64 (((ups (12 - s.Cursor.toNat) s.Cursor).length : Int) - 1)) = some f := by
          rw [ups_len, w64_id (by omega) (by omega), show ((12 - s.Cursor.toNat : Nat) : Int) - 1 = 11 - s.Cursor by omega]; exact ef
        simp only [cond_true, line_exact v c0 c1, rline v c0 c1, Option.bind_some, ef']
        rcases h with ⟨hf, ep⟩ | ⟨hf, y, ep, er, hy⟩
        · simp only [ep, if_pos hf, Option.bind_some, cond_false, rdeny v.u]
          unfold edit_Deny.m
          rw [copyU v.u]
          exact ⟨_, .spot s.Cursor (.no 10), 10, s.Cursor, rfl, rfl, rfl, v.with v.u.co c0 c1 _ _, by simp⟩
        · obtain ⟨t, ht, e1, e2⟩ := putL v wc (lc.trans cc) hy
          rw [hI] at e1 e2
          simp only [ep, if_neg hf, Option.bind_some, cond_true, er]
          exact ⟨t, .nil, 0, -1, e1, e2, rfl, ht, by decide⟩
def KL (s : api_Screen) (p : Option (api_Screen × Bool × GoErr)) (q : Option (api_Screen × Bool × Int × Int)) (ch : Int) : Prop :=
  ∃ t a e w i, p = some (t, a, e) ∧ q = some (t, a, w, i) ∧ codeOf e = w ∧ U12 t ∧ (a = true → aidC ch = true ∧ e = .nil)
theorem keysL (v : U12 s) {k : api_Key} (wc : Wf .u8 k.Char) (h0 : 0 ≤ k.Char) (h1 : k.Char ≤ 255) : KL s (keys_Do.m KK s k) (shutterref17_Do.m KK s k) k.Char := by
  have c0 := v.u.c0; have c1 := v.lt; have c1u := v.u.c1
  obtain ⟨kind, ch⟩ := k
  simp only at wc h0 h1 ⊢
  have typ : ∀ {c : Int} {p : api_Screen × GoErr → Option (api_Screen × Bool × GoErr)} {q : api_Screen × Int × Int → Option (api_Screen × Bool × Int × Int)}, Wf .u8 c → 0 ≤ c → c ≤ 255 → (∀ t e, p (t, e) = some (t, false, e)) → (∀ t w a, q (t, w, a) = some (t, false, w, a)) →
      KL s ((edit_Type.m KK s c).bind p) ((shutterref14_Type.m KK s c).bind q) ch := by
    intro c p q w a b hp hq
    obtain ⟨t, e, w, a, e1, e2, hc, ht, _⟩ := typeL v w a b
    rw [e1, e2]
    exact ⟨t, false, e, w, a, hp t e, hq t w a, hc, ht, fun x => by cases x⟩
  unfold keys_Do.m shutterref17_Do.m keys_plain.m
  by_cases k1 : kind = 1
  · subst k1
    simp only [letJ, show ¬ ((1 : Int) = 17) from by decide, show ¬ ((1 : Int) = 10) from by decide, show ¬ ((1 : Int) = 11) from by decide, if_true, if_false, cond_true, cond_false, show move_Moves.m 1 = some false from rfl, show wipe_Wipes.m 1 = some false from rfl, Option.bind_some]
    obtain ⟨t, e, w, a, e1, e2, hc, ht, _⟩ := typeL v wc h0 h1
    rw [e1, e2]
    exact ⟨t, false, e, w, a, rfl, rfl, hc, ht, fun x => by cases x⟩
  by_cases k11 : kind = 11
  · subst k11
    simp only [letJ, show ¬ ((11 : Int) = 17) from by decide, show ¬ ((11 : Int) = 10) from by decide, show ¬ ((11 : Int) = 1) from by decide, if_true, if_false, cond_true, cond_false, show move_Moves.m 11 = some false from rfl, show wipe_Wipes.m 11 = some false from rfl, Option.bind_some]
    obtain ⟨t, e, w, a, e1, e2, hc, ht, _⟩ := typeL v (c := 30) (wf8i (by decide) (by decide)) (by decide) (by decide)
    rw [e1, e2]
    exact ⟨t, false, e, w, a, rfl, rfl, hc, ht, fun x => by cases x⟩
  by_cases k10 : kind = 10
  · subst k10
    simp only [letJ, show ¬ ((10 : Int) = 17) from by decide, show ¬ ((10 : Int) = 11) from by decide, show ¬ ((10 : Int) = 1) from by decide, if_true, if_false, cond_true, cond_false, show move_Moves.m 10 = some false from rfl, show wipe_Wipes.m 10 = some false from rfl, Option.bind_some]
    unfold keys_dup.m
    obtain ⟨t, e, w, a, e1, e2, hc, ht, hn⟩ := typeL v (c := 28) (wf8i (by decide) (by decide)) (by decide) (by decide)
    rw [e1, e2]
    simp only [Option.bind_some]
    by_cases he : e = .nil
    · have hw := hn.1 he
      subst he; subst hw
      have a1 : s.Cursor < (t.Cells.length : Int) := by rw [ht.n]; exact c1
      simp only [if_true, nextU ht.u c0 a1, Option.bind_some, mx0, rnext ht c0 c1, show ((-1 : Int) < 0) from by decide, cond_true]
      exact ⟨_, false, .nil, 0, a, rfl, rfl, rfl, ht.with ht.u.co (by omega) (by omega) _ _, fun x => by cases x⟩
    · have hw : ¬ w = 0 := fun h => he (hn.2 h)
      simp only [if_neg he, if_neg hw, cond_false, Option.bind_some]
      exact ⟨t, false, e, w, a, rfl, rfl, hc, ht, fun x => by cases x⟩
  by_cases km : 2 ≤ kind ∧ kind ≤ 9
  · obtain ⟨t, e, w, e1, e2, hc, ht⟩ := moveL v km.1 km.2
    have hm : move_Moves.m kind = some true := by unfold move_Moves.m; rw [if_pos km.1, decide_eq_true km.2]
    have k17 : ¬ kind = 17 := by omega
    have k2 : kind ≥ 2 := km.1
    simp only [letJ, if_neg k17, if_neg k1, if_neg k10, if_neg k11, cond_true, cond_false, hm, Option.bind_some, if_pos k2, if_pos km.2, e1, e2]
    exact ⟨t, false, e, w, -1, rfl, rfl, hc, ht, fun x => by cases x⟩
  have hm : move_Moves.m kind = some false := by
    unfold move_Moves.m
    by_cases h : kind ≥ 2
    · rw [if_pos h, decide_eq_false (by omega)]
    · rw [if_neg h]
  have nm : ∀ {α : Type} (x y : α), (if kind ≥ 2 then (if kind ≤ 9 then x else y) else y) = y := fun x y => by
    by_cases h : kind ≥ 2
    · rw [if_pos h, if_neg (by omega)]
    · rw [if_neg h]
  by_cases kw : 12 ≤ kind ∧ kind ≤ 14
  · obtain ⟨t, e, w, a, e1, e2, hc, ht⟩ := wipeL v kw.1 kw.2
    have hw : wipe_Wipes.m kind = some true := by unfold wipe_Wipes.m; rw [if_pos kw.1, decide_eq_true kw.2]
    have k17 : ¬ kind = 17 := by omega
    have k2 : kind ≥ 12 := kw.1
    simp only [letJ, if_neg k17, if_neg k1, if_neg k10, if_neg k11, cond_true, cond_false, hm, nm, hw, Option.bind_some, if_pos k2, if_pos kw.2, e1, e2]
    exact ⟨t, false, e, w, a, rfl, rfl, hc, ht, fun x => by cases x⟩
  have hw : wipe_Wipes.m kind = some false := by
    unfold wipe_Wipes.m
    by_cases h : kind ≥ 12
    · rw [if_pos h, decide_eq_false (by omega)]
    · rw [if_neg h]
  have nw : ∀ {α : Type} (x y : α), (if kind ≥ 12 then (if kind ≤ 14 then x else y) else y) = y := fun x y => by
    by_cases h : kind ≥ 12
    · rw [if_pos h, if_neg (by omega)]
    · rw [if_neg h]
  simp only [letJ, if_neg k1, if_neg k10, if_neg k11, cond_false, hm, hw, nm, nw, Option.bind_some, rcopyU v.u]
  by_cases k17 : kind = 17
  · subst k17
    simp only [if_true, cond_true, show ¬ ((17 : Int) = 16) from by decide, show ¬ ((17 : Int) = 15) from by decide, if_false, cond_false]
    unfold keys_asks.m
    simp only [letJ, aid_eq, refaid_eq, Option.bind_some]
    cases ha : aidC ch with
    | false => exact ⟨s, false, .no 3, 3, -1, rfl, rfl, rfl, v, fun x => by cases x⟩
    | true =>
      simp only [cond_true, cond_false]
      cases hL : s.Locked with
      | true => exact ⟨s, false, .no 7, 7, -1, rfl, rfl, rfl, v, fun x => by cases x⟩
      | false =>
        simp only [cond_false, copyU v.u, Option.bind_some]
        by_cases h9 : ch = 109
        · have e : mk (s.Cells.length : Int) (⟨false, (⟨false, false, 0, false⟩ : api_Attr), 0⟩ : api_Cell) = some (List.replicate s.Cells.length ⟨false, ⟨false, false, 0, false⟩, 0⟩) := by
            unfold mk
            rw [v.n]
            rfl
          simp only [if_pos h9, cond_true, e, Option.bind_some]
          exact ⟨_, true, .nil, 0, -1, rfl, rfl, rfl, v.with ⟨by simp, fun c hc => by rw [(List.mem_replicate.1 hc).2]; exact okz⟩ (by omega) (by omega) _ _, fun _ => ⟨ha, rfl⟩⟩
        · simp only [if_neg h9, cond_false]
          exact ⟨_, true, .nil, 0, -1, rfl, rfl, rfl, v.with v.u.co c0 c1 _ _, fun _ => ⟨ha, rfl⟩⟩
  by_cases k15 : kind = 15
  · subst k15
    unfold keys_set.m
    simp only [letJ, show ¬ ((15 : Int) = 17) from by decide, show ¬ ((15 : Int) = 16) from by decide, if_true, if_false, cond_true, cond_false, copyU v.u, Option.bind_some]
    cases hL : s.Locked with
    | true => exact ⟨s, false, .no 7, 7, -1, rfl, rfl, rfl, v, fun x => by cases x⟩
    | false => exact ⟨_, false, .nil, 0, -1, rfl, rfl, rfl, v.with v.u.co c0 c1 _ _, fun x => by cases x⟩
  by_cases k16 : kind = 16
  · subst k16
    unfold keys_set.m
    simp only [letJ, show ¬ ((16 : Int) = 17) from by decide, show ¬ ((16 : Int) = 15) from by decide, if_true, if_false, cond_true, cond_false, copyU v.u, Option.bind_some]
    exact ⟨_, false, .nil, 0, -1, rfl, rfl, rfl, v.with v.u.co c0 c1 _ _, fun x => by cases x⟩
  · simp only [if_neg k17, if_neg k15, if_neg k16, cond_false, Option.bind_some]
    exact ⟨s, false, .no 1, 1, -1, rfl, rfl, rfl, v, fun x => by cases x⟩
end
end Go.Proofs.YtjkbhpokboolpaaGreatDoor.Sx

namespace Go.Proofs.YtjkbhpokboolpaaGreatDoor.Sx
open Go
set_option maxRecDepth 100000
set_option maxHeartbeats 4000000
section
variable {s : api_Screen}
theorem fmt_lU (u : US s) : ∀ (k : Nat) (i : Int), 0 ≤ i → i ≤ (s.Cells.length : Int) → (s.Cells.length : Int) - i < k → slices_IndexFunc_api_Cell__field_Formatted_1.l1.m KK s.Cells k i = some () := by
  have hl := u.len
  intro k
  induction k with
  | zero => intro i _ _ h; omega
  | succ k ih =>
    intro i i0 i1 hk
    rw [slices_IndexFunc_api_Cell__field_Formatted_1.l1.m]
    simp only [letJ]
    by_cases h3 : i < (s.Cells.length : Int)
    · unfold field_Formatted_1.m
      rw [if_pos h3, cond_true, if_pos i0, if_pos h3, (u.at i0 h3).1, Option.bind_some, cond_false, w64_id (n := i + 1) (by omega) (by omega)]
      exact ih (i + 1) (by omega) (by omega) (by omega)
    · rw [if_neg h3, cond_false]
theorem fmtU (u : US s) : field_Formatted.m KK s = some false := by
  have hl := u.len
  unfold field_Formatted.m slices_ContainsFunc_api_Cell__field_Formatted_1.m slices_IndexFunc_api_Cell__field_Formatted_1.m
  rw [fmt_lU u KK 0 (by omega) (by omega) (by unfold KK; omega)]
  rfl
theorem lettersU (u : US s) : read_letters.m KK s (ups s.Cells.length 0) = some (ltrS s (ups s.Cells.length 0)) := by
  refine lettersS_eq (by rw [ups_len]; exact u.len) fun x hx => ?_
  have h := ups_in _ _ x hx
  exact ⟨by omega, by omega, by unfold isC; rw [(u.at (by omega) (by omega)).1]; rfl⟩
theorem ltrS_ok (u : US s) : (ltrS s (ups s.Cells.length 0)).length ≤ s.Cells.length ∧ ∀ y ∈ ltrS s (ups s.Cells.length 0), Wf .u8 y ∧ ltr y = true := by
  refine ⟨by have := ltrS_len s (ups s.Cells.length 0); rw [ups_len] at this; exact this, fun y hy => ?_⟩
  unfold ltrS at hy
  obtain ⟨h1, h2⟩ := List.mem_filter.1 hy
  obtain ⟨i, hi, rfl⟩ := List.mem_map.1 h1
  have h := ups_in _ _ i hi
  have o := u.at (i := i) (by omega) (by omega)
  have hz : (at_ s.Cells i).Char ≠ 0 := by simpa using h2
  exact ⟨o.2.2.1, o.2.2.2.resolve_left hz⟩
def rep (s : api_Screen) (x : Int) : List Int := if bareC x then [x] else x :: (putOf s.Cursor 12 ++ ltrS s (ups 12 0))
theorem rep_ok (v : U12 s) {x : Int} (wx : Wf .u8 x) : (∀ y ∈ rep s x, Wf .u8 y) ∧ 1 ≤ (rep s x).length ∧ (rep s x).length ≤ 15 := by
  obtain ⟨tl, tw⟩ := ltrS_ok v.u
  rw [v.n] at tl tw
  have c0 := v.u.c0; have c1 := v.lt
  unfold rep
  by_cases hb : bareC x = true
  · rw [if_pos hb]
    exact ⟨fun y hy => by rw [List.mem_singleton.1 hy]; exact wx, by simp, by simp⟩
  · rw [if_neg hb]
    refine ⟨fun y hy => ?_, by simp, by simp only [List.length_cons, List.length_append, put_len]; omega⟩
    rcases List.mem_cons.1 hy with rfl | hy
    · exact wx
    · rcases List.mem_append.1 hy with hy | hy
      · exact put_u8 (by decide) c0 c1 y hy
      · exact (tw y hy).1
theorem replyX (v : U12 s) {x : Int} (wx : Wf .u8 x) (aid : aidC x = true) : read_Reply.m KK s 246 x = some (rep s x, .nil) := by
  have u := v.u
  have hl := u.len; have l0 := u.l0; have c0 := u.c0; have c1 := u.c1; have c12' := v.lt; have n := v.n
  have ha : attr_Aid.m x = some true := by rw [aid_eq, aid]
  obtain ⟨tl, tw⟩ := ltrS_ok u
  have er : ups s.Cells.length 0 = ups 12 0 := by rw [n]
  generalize ht : ltrS s (ups s.Cells.length 0) = t at tl tw
  have ht12 : ltrS s (ups 12 0) = t := by rw [← er]; exact ht
  have tall : t.all ltr = true := List.all_eq_true.2 fun y hy => (tw y hy).2
  have fin : ∀ (o : api_In) (b : List Int), read_Modified.m KK s x = some (o, .nil) → writeI o 12 = (b, .nil) → o.Fields.length ≤ 100000 → (∀ f ∈ o.Fields, f.Text.length ≤ 100000) → (flatF o.Fields 12).length ≤ 800000 → read_Reply.m KK s 246 x = some (b, .nil) := by
    intro o b e1 e2 f1 f2 f3
    unfold read_Reply.m grid_Size.m
    simp only [if_true, e1, Option.bind_some, n, c12, write9_eq (o := o) (n := 12) (by decide) (by decide) f1 f2 f3, e2]
  cases hb : bareC x with
  | true =>
    refine fin ⟨x, 0, []⟩ _ ?_ ?_ (by simp) (by simp) (by simp [flatF])
    · unfold read_Modified.m
      rw [ha, Option.bind_some, cond_true, bare_eq, hb]
      rfl
    · unfold writeI errI rep
      simp [aid, hb]
  | false =>
    by_cases hz : t = []
    · refine fin ⟨x, s.Cursor, []⟩ _ ?_ ?_ (by simp) (by simp) (by simp [flatF])
      · unfold read_Modified.m
        rw [ha, Option.bind_some, cond_true, bare_eq, hb, Option.bind_some, cond_false, fmtU u, Option.bind_some, cond_false, cellsU u (by omega) (by omega), Option.bind_some, lettersU u, ht, hz]
        rfl
      · have e : errI ⟨x, s.Cursor, []⟩ 12 = .nil := by
          unfold errI
          simp only [aid, hb, if_true, Bool.false_eq_true, if_false]
          rw [if_neg (by omega)]; rfl
        unfold writeI rep
        rw [if_pos e, ht12, hz]
        simp only [hb, Bool.false_eq_true, if_false]
        rfl
    · have hw : wrongF ⟨-1, t⟩ true 12 = 0 := by
        unfold wrongF
        rw [tall]
        cases t with
        | nil => exact absurd rfl hz
        | cons y t => simp
      have hfl : flatF [(⟨-1, t⟩ : api_Entry)] 12 = t := by
        rw [flatF_cons]
        unfold putF flatF
        simp
      have tp : (t.length : Int) > 0 := by
        cases t with
        | nil => exact absurd rfl hz
        | cons y t => simp only [List.length_cons]; omega
      refine fin ⟨x, s.Cursor, [⟨-1, t⟩]⟩ _ ?_ ?_ (by simp) (fun f hf => by rw [List.mem_singleton.1 hf]; show t.length ≤ 100000; omega) (by rw [hfl]; omega)
      · unfold read_Modified.m
        rw [ha, Option.bind_some, cond_true, bare_eq, hb, Option.bind_some, cond_false, fmtU u, Option.bind_some, cond_false, cellsU u (by omega) (by omega), Option.bind_some, lettersU u, ht, Option.bind_some, if_pos tp]
      · have e : errI ⟨x, s.Cursor, [⟨-1, t⟩]⟩ 12 = .nil := by
          unfold errI
          simp only [aid, hb, if_true, Bool.false_eq_true, if_false]
          rw [if_neg (by omega)]
          simp only [List.length_singleton, beq_self_eq_true]
          unfold fW
          rw [if_neg (by rw [hw]; simp)]
          rfl
        unfold writeI rep
        rw [if_pos e, ht12]
        simp only [hb, Bool.false_eq_true, if_false, hfl]
        rw [if_neg (by omega)]
theorem rput_all : ((List.range 12).all fun a => decide (shutterref04_Put.m (a : Int) 12 = some (putOf (a : Int) 12))) = true := by kernel_rfl
theorem rput {a : Int} (h0 : 0 ≤ a) (h1 : a < 12) : shutterref04_Put.m a 12 = some (putOf a 12) := by
  have h := of_decide_eq_true (List.all_eq_true.1 rput_all a.toNat (List.mem_range.2 (by omega)))
  rw [Int.toNat_of_nonneg h0] at h
  exact h
theorem rfmt_l (u : US s) : ∀ (k : Nat) (i : Int), 0 ≤ i → i ≤ (s.Cells.length : Int) → (s.Cells.length : Int) - i < k → shutterref11_Formatted.l1.m KK s k i = some () := by
  have hl := u.len
  intro k
  induction k with
  | zero => intro i _ _ h; omega
  | succ k ih =>
    intro i i0 i1 hk
    rw [shutterref11_Formatted.l1.m]
    by_cases h3 : i < (s.Cells.length : Int)
    · rw [if_pos h3, if_pos i0, (u.at i0 h3).1, cond_false, w64_id (n := i + 1) (by omega) (by omega)]
      exact ih (i + 1) (by omega) (by omega) (by omega)
    · rw [if_neg h3]
theorem rltr_l (u : US s) : ∀ (m k : Nat) (i : Int) (acc : List Int), 0 ≤ i → i + m = (s.Cells.length : Int) → m < k → acc.length ≤ i → shutterref18_Modified.l1.m KK s k acc i = some (acc ++ ltrS s (ups m i)) := by
  have hl := u.len
  intro m
  induction m with
  | zero =>
    intro k i acc i0 hm hk ha
    obtain ⟨k, rfl⟩ : ∃ q, k = q + 1 := ⟨k - 1, by omega⟩
    rw [shutterref18_Modified.l1.m, if_neg (by omega), ups]
    simp [ltrS]
  | succ m ih =>
    intro k i acc i0 hm hk ha
    obtain ⟨k, rfl⟩ : ∃ q, k = q + 1 := ⟨k - 1, by omega⟩
    have h3 : i < (s.Cells.length : Int) := by omega
    have o := u.at i0 h3
    have hb := b_u8 o.2.2.1
    rw [shutterref18_Modified.l1.m]
    simp only [letJ]
    rw [if_pos h3, if_pos i0, letter_K hb.1 hb.2, Option.bind_some, ups, ltrS_cons, w64_id (n := i + 1) (by omega) (by omega), if_pos i0]
    by_cases hc : (at_ s.Cells i).Char = 0
    · rw [if_pos hc, hc, show ltr 0 = false from rfl, cond_false, cond_false]
      exact ih k (i + 1) acc (by omega) (by omega) (by omega) (by omega)
    · rw [if_neg hc, o.2.2.2.resolve_left hc, cond_true, cond_true, appk (by simp; omega), Option.bind_some, ih k (i + 1) _ (by omega) (by omega) (by omega) (by simp; omega)]
      simp
theorem rsays (v : U12 s) {x : Int} : ((shutterref18_Modified.m KK s x).bind fun t1 => shutterref09_Write.m KK t1 (s.Cells.length : Int)) = some (rep s x) := by
  have u := v.u
  have hl := u.len; have c0 := u.c0; have c1 := v.lt; have n := v.n
  have tl := ltrS_len s (ups 12 0)
  rw [ups_len] at tl
  have wl : ∀ (o : api_In) (acc : List Int) (q : Nat), o.Fields = [] → shutterref09_Write.l1.m KK o (q + 1) acc 0 = some acc := fun o acc q h => by
    rw [shutterref09_Write.l1.m, h, if_neg (by simp)]
  unfold shutterref18_Modified.m shutterref09_Write.m rep
  rw [refbare_eq]
  cases hb : bareC x with
  | true => simp [refbare_eq, hb]
  | false =>
    have e1 : shutterref11_Formatted.m KK s = some false := by
      unfold shutterref11_Formatted.m
      rw [rfmt_l u KK 0 (by omega) (by omega) (by unfold KK; omega)]; rfl
    have e2 : shutterref18_Modified.l1.m KK s KK [] 0 = some (ltrS s (ups 12 0)) := by
      have := rltr_l u 12 KK 0 [] (by omega) (by rw [n]; rfl) (by unfold KK; omega) (by simp)
      rw [List.nil_append] at this; exact this
    generalize ht : ltrS s (ups 12 0) = t at tl e2
    simp only [letJ, Option.bind_some, cond_false, e1, e2, Bool.false_eq_true, if_false]
    cases t with
    | nil =>
      simp only [List.length_nil, show ¬ (((0 : Nat) : Int) > 0) from by decide, if_false, cond_false, Option.bind_some, refbare_eq, hb, n, c12, rput c0 c1]
      rw [appk (by simp [put_len]), Option.bind_some, show KK = 1048575 + 1 from rfl, wl _ _ _ rfl]
      simp
    | cons y t =>
      have hp : ((y :: t).length : Int) > 0 := by simp only [List.length_cons]; omega
      simp only [if_pos hp, cond_true, Option.bind_some, n, c12]
      rw [appk (by simp), Option.bind_some]
      simp only [Option.bind_some, refbare_eq, hb, cond_false, rput c0 c1]
      rw [appk (by simp [put_len]), Option.bind_some, List.nil_append, show KK = 1048574 + 1 + 1 from rfl, shutterref09_Write.l1.m]
      simp only [List.length_singleton]
      rw [if_pos (by decide), if_pos (by decide)]
      simp only [show at_ [(⟨-1, y :: t⟩ : api_Entry)] 0 = ⟨-1, y :: t⟩ from rfl]
      rw [if_neg (by decide), appk (by simp only [List.length_cons, List.length_append, put_len, List.length_nil] at tl ⊢; omega), Option.bind_some, show w64 (0 + 1) = 1 from by decide, shutterref09_Write.l1.m, if_neg (by simp)]
      simp
end
end Go.Proofs.YtjkbhpokboolpaaGreatDoor.Sx

namespace Go.Proofs.YtjkbhpokboolpaaGreatDoor.Sx
open Go
set_option maxRecDepth 100000
set_option maxHeartbeats 4000000
structure CK (i : Nat) (c : side_Client) (r : shutterref25_Terminal) : Prop where
  u : U12 c.s'
  sc : r.S = c.s'
  sent : r.Sent = c.sent'
  ln : LN c.side'.line'
  ql : c.side'.line'.queue'.length = c.sent'.length
  sl : c.sent'.length ≤ i
  ok : ∀ b ∈ c.sent', 1 ≤ b.length ∧ b.length ≤ 64
  td : c.todo' = []
  ev : c.events'.length = i
  by' : ∀ e ∈ c.events', e.Bytes.length ≤ 100
theorem sendK {i : Nat} {c : side_Client} {r : shutterref25_Terminal} (C : CK i c r) (hi : i ≤ 100) {b : List Int} (wb : ∀ y ∈ b, Wf .u8 y) (hb : b.length ≤ 40) :
    ∃ l', side_Client_send.m KK c 0 b = some (true, ⟨⟨c.side'.key', c.side'.gate', l', c.side'.dir', c.side'.seq'⟩, c.s', c.todo', c.sent' ++ [0 :: b], c.events'⟩) ∧ LN l' ∧ l'.queue'.length = c.sent'.length + 1 := by
  have hq := C.ql; have hs := C.sl
  have w0 : ∀ y ∈ (0 : Int) :: b, Wf .u8 y := fun y hy => by
    rcases List.mem_cons.1 hy with rfl | hy
    · exact w8_0
    · exact wb y hy
  obtain ⟨l', es, L', hq'⟩ := send_one C.ln w0 (by simp) (by simp; omega) (by omega)
  unfold side_Client_send.m
  rw [appk (by simp; omega), Option.bind_some]
  have hb1 : (([0] ++ b).length : Int) = (b.length : Int) + 1 := by simp
  have hr : line_Line_Room.m c.side'.line' (([0] ++ b).length : Int) = some (true, c.side'.line') := by
    unfold line_Line_Room.m line_Line_room.m
    rw [hb1, if_pos (by omega), if_pos (by omega), w64_id (n := (b.length : Int) + 1 + 64) (by omega) (by omega), w64_id (n := (b.length : Int) + 1 + 64 - 1) (by omega) (by omega), Int.tdiv_eq_ediv_of_nonneg (by omega), w64_id (n := ((b.length : Int) + 1 + 64 - 1) / 64) (by omega) (by omega), w64_id (by omega) (by omega),
      decide_eq_true (by omega)]
    rfl
  have es' : line_Line_Send.m KK (⟨c.side'.line'.queue', c.side'.line'.given', c.side'.line'.await', c.side'.line'.kept', c.side'.line'.coming', c.side'.line'.wait', c.side'.line'.left', c.side'.line'.owes'⟩ : line_Line) ([0] ++ b) = some (.nil, l') := es
  rw [hr, Option.bind_some, cond_true]
  simp only
  rw [es', Option.bind_some, if_pos rfl, appk (by simp; omega), Option.bind_some]
  refine ⟨⟨l'.queue', l'.given', l'.await', c.side'.line'.kept', c.side'.line'.coming', l'.wait', l'.left', l'.owes'⟩, rfl, ⟨L'.q, L'.len, L'.giv, L'.aw, L'.ow, L'.w0, L'.w1, L'.f0, L'.f1⟩, ?_⟩
  show l'.queue'.length = _
  omega
theorem keyK {i : Nat} {c : side_Client} {r : shutterref25_Terminal} (C : CK i c r) (hi : i ≤ 100) {k : api_Key} (wc : Wf .u8 k.Char) :
    ∃ q r', side_Client_Key.m KK c k = some q ∧ shutterref25_Key.m KK r k (codeOf q.2.1) = some (r', true) ∧ CK (i + 1) (⟨(⟨c.side'.key', (⟨c.side'.gate'.Key, q.2.2.side'.gate'.Dir, q.2.2.side'.gate'.Seen, q.2.2.side'.gate'.Peer⟩ : roam_Gate), q.2.2.side'.line', q.2.2.side'.dir', q.2.2.side'.seq'⟩ : side_side), q.2.2.s', c.todo', q.2.2.sent', q.2.2.events'⟩ : side_Client) r' := by
  have b8 := b_u8 wc
  have hE := C.ev; have hS := C.sl
  obtain ⟨t, a, e, w, p, e1, e2, hc, ht, hA⟩ := keysL C.u wc b8.1 b8.2
  unfold side_Client_Key.m side_Client_press.m api_Code.m shutterref25_Key.m
  rw [C.sc, e1, e2]
  simp only [letJ, Option.bind_some]
  cases a with
  | false =>
    simp only [cond_false, cond_true, Option.bind_some]
    rw [appk (by simp; omega), Option.bind_some]
    refine ⟨_, ⟨t, r.Sent⟩, rfl, ?_, ⟨ht, rfl, C.sent, C.ln, C.ql, by show c.sent'.length ≤ i + 1; omega, C.ok, C.td, by simp; omega, fun y hy => ?_⟩⟩
    · rw [show (codeOf e == w) = true by rw [hc]; exact beq_self_eq_true w]
    · rcases List.mem_append.1 hy with hy | hy
      · exact C.by' y hy
      · rw [List.mem_singleton.1 hy]; simp
  | true =>
    obtain ⟨ha, rfl⟩ := hA rfl
    obtain ⟨wb, b1, b2⟩ := rep_ok C.u wc
    obtain ⟨l', es, L', hq'⟩ := sendK C hi wb (by omega)
    have hr := rsays C.u (x := k.Char)
    simp only [cond_true, cond_false]
    unfold side_Client_ask.m
    rw [replyX C.u wc ha]
    simp only [Option.bind_some, if_true, es, cond_true]
    rw [appk (by simp; omega), Option.bind_some]
    refine ⟨_, ⟨t, c.sent' ++ [0 :: rep c.s' k.Char]⟩, rfl, ?_, ⟨ht, rfl, rfl, L', by show l'.queue'.length = _; simp; omega, by simp; omega, fun y hy => ?_, C.td, by simp; omega, fun y hy => ?_⟩⟩
    · show (if codeOf .nil = 10 then none else _) = _
      rw [if_neg (by decide)]
      obtain ⟨o, eo, ew⟩ := Option.bind_eq_some_iff.1 hr
      rw [eo, Option.bind_some, ew, Option.bind_some]
      unfold shutterref25_send.m
      rw [C.sent, appk (by simp; omega), Option.bind_some, appk (by simp; omega), Option.bind_some, appk (by simp; omega)]
      rfl
    · rcases List.mem_append.1 hy with hy | hy
      · exact C.ok y hy
      · rw [List.mem_singleton.1 hy]; simp only [List.length_cons]; omega
    · rcases List.mem_append.1 hy with hy | hy
      · exact C.by' y hy
      · rw [List.mem_singleton.1 hy]; simp
theorem keys_l {x1 : List api_Key} (hx : x1.length ≤ 60) (wx : ∀ y ∈ x1, ok_api_Key y) : ∀ (k : Nat) (i : Int) (c : side_Client) (r : shutterref25_Terminal), 0 ≤ i → i ≤ (x1.length : Int) → (x1.length : Int) - i < k → CK i.toNat c r →
    ∃ c' r', shutterlaw25_SideKeys.l1.m KK x1 k i c r = some (c', r') ∧ CK x1.length c' r' := by
  intro k
  induction k with
  | zero => intro i c r _ _ h; omega
  | succ k ih =>
    intro i c r i0 i1 hk C
    rw [shutterlaw25_SideKeys.l1.m]
    simp only [letJ]
    by_cases h3 : i < (x1.length : Int)
    · obtain ⟨q, r', e1, e2, C'⟩ := keyK C (by omega) (wx _ (at_in i0 h3)).2
      have hi1 : (i + 1).toNat = i.toNat + 1 := by omega
      rw [if_pos h3, if_pos i0, e1, Option.bind_some]
      unfold api_Code.m
      rw [Option.bind_some, e2, Option.bind_some]
      simp only [cond_true]
      rw [w64_id (n := i + 1) (by omega) (by omega)]
      exact ih (i + 1) _ r' (by omega) (by omega) (by omega) (hi1 ▸ C')
    · rw [if_neg h3]
      obtain rfl : i = (x1.length : Int) := by omega
      exact ⟨c, r, rfl, by rw [Int.toNat_natCast] at C; exact C⟩
theorem sum_l {r : shutterref25_Terminal} (hn : r.Sent.length ≤ 100) (ok : ∀ b ∈ r.Sent, 1 ≤ b.length ∧ b.length ≤ 64) : ∀ (k : Nat) (i : Int), 0 ≤ i → i ≤ (r.Sent.length : Int) → (r.Sent.length : Int) - i < k → shutterlaw25_SideKeys.l2.m KK r k i i = some (r.Sent.length : Int) := by
  intro k
  induction k with
  | zero => intro i _ _ h; omega
  | succ k ih =>
    intro i i0 i1 hk
    rw [shutterlaw25_SideKeys.l2.m]
    by_cases h3 : i < (r.Sent.length : Int)
    · obtain ⟨h1, h2⟩ := ok _ (at_in i0 h3)
      have e : w64 (i + w64 (Int.tdiv (w64 (((at_ r.Sent i).length : Int) + 63)) 64)) = i + 1 := by
        rw [w64_id (n := ((at_ r.Sent i).length : Int) + 63) (by omega) (by omega), Int.tdiv_eq_ediv_of_nonneg (by omega), w64_id (n := (((at_ r.Sent i).length : Int) + 63) / 64) (by omega) (by omega), w64_id (by omega) (by omega)]
        omega
      rw [if_pos h3, if_pos i0, e, w64_id (n := i + 1) (by omega) (by omega)]
      exact ih (i + 1) (by omega) (by omega) (by omega)
    · rw [if_neg h3]
      congr 1; omega
theorem same_l (s : api_Screen) (hl : s.Cells.length ≤ 200) : ∀ (k : Nat) (i : Int), 0 ≤ i → i ≤ (s.Cells.length : Int) → (s.Cells.length : Int) - i < k → shutterref10_Same.l1.m KK s s k i = some () := by
  intro k
  induction k with
  | zero => intro i _ _ h; omega
  | succ k ih =>
    intro i i0 i1 hk
    rw [shutterref10_Same.l1.m]
    by_cases h3 : i < (s.Cells.length : Int)
    · rw [if_pos h3, if_pos i0, if_pos h3]
      simp only [beq_self_eq_true, Bool.and_true, cond_true]
      rw [w64_id (n := i + 1) (by omega) (by omega)]
      exact ih (i + 1) (by omega) (by omega) (by omega)
    · rw [if_neg h3]
theorem sameK {s : api_Screen} (hl : s.Cells.length ≤ 200) : shutterref10_Same.m KK s s = some true := by
  unfold shutterref10_Same.m
  simp only [if_true, bne_self_eq_false, cond_false, same_l s hl KK 0 (by omega) (by omega) (by unfold KK; omega), Option.bind_some]
theorem texts_l {x : List (List Int)} (hx : x.length ≤ 100) (ok : ∀ b ∈ x, b.length ≤ 64) : ∀ (k : Nat) (acc : List (List Int)) (i : Int), 0 ≤ i → i ≤ (x.length : Int) → (x.length : Int) - i < k → acc.length ≤ i → side_texts.l1.m KK x k acc i = some (acc ++ x.drop i.toNat) := by
  intro k
  induction k with
  | zero => intro acc i _ _ h; omega
  | succ k ih =>
    intro acc i i0 i1 hk ha
    rw [side_texts.l1.m]
    simp only [letJ]
    by_cases h3 : i < (x.length : Int)
    · have hb := ok _ (at_in i0 h3)
      rw [if_pos h3, cond_true, if_pos i0, if_pos h3, clone_b (by omega), Option.bind_some, appk (by simp; omega), Option.bind_some, w64_id (n := i + 1) (by omega) (by omega), ih _ (i + 1) (by omega) (by omega) (by omega) (by simp; omega), at_cons i0 h3]
      simp
    · rw [if_neg h3, cond_false, List.drop_eq_nil_of_le (by omega), List.append_nil]
theorem textsK {x : List (List Int)} (hx : x.length ≤ 100) (ok : ∀ b ∈ x, b.length ≤ 64) : side_texts.m KK x = some x := by
  unfold side_texts.m
  rw [texts_l hx ok KK [] 0 (by omega) (by omega) (by unfold KK; omega) (by simp)]
  rfl
theorem bselfK (a : ByteArray) : (a == a) = true := by rw [beq_toListBytes]; simp
theorem sameT_l {x : List (List Int)} (hx : x.length ≤ 100) : ∀ (k : Nat) (i : Int), 0 ≤ i → i ≤ (x.length : Int) → (x.length : Int) - i < k → shutterref23_SameTexts.l1.m KK x x k i = some () := by
  intro k
  induction k with
  | zero => intro i _ _ h; omega
  | succ k ih =>
    intro i i0 i1 hk
    rw [shutterref23_SameTexts.l1.m]
    by_cases h3 : i < (x.length : Int)
    · rw [if_pos h3, if_pos i0, if_pos h3, bselfK, cond_true, w64_id (n := i + 1) (by omega) (by omega)]
      exact ih (i + 1) (by omega) (by omega) (by omega)
    · rw [if_neg h3]
theorem sameTK {x : List (List Int)} (hx : x.length ≤ 100) : shutterref23_SameTexts.m KK x x = some true := by
  unfold shutterref23_SameTexts.m
  rw [if_pos rfl, sameT_l hx KK 0 (by omega) (by omega) (by unfold KK; omega)]
  rfl
theorem events_l {t : List api_Event} (ht : t.length ≤ 100) : ∀ (k : Nat) (x : List api_Event) (i : Int), x.length = t.length → (∀ e ∈ x, e.Bytes.length ≤ 100) → 0 ≤ i → i ≤ (t.length : Int) → (t.length : Int) - i < k → ∃ y, side_Client_Events.l1.m KK t k x i = some y ∧ y.length = t.length := by
  intro k
  induction k with
  | zero => intro x i _ _ _ _ h; omega
  | succ k ih =>
    intro x i hx hb i0 i1 hk
    rw [side_Client_Events.l1.m]
    simp only [letJ]
    by_cases h3 : i < (t.length : Int)
    · have h3' : i < (x.length : Int) := by omega
      have hB := hb _ (at_in i0 h3')
      rw [if_pos h3, cond_true, if_pos i0, if_pos h3', clone_b (by omega), Option.bind_some, w64_id (n := i + 1) (by omega) (by omega)]
      exact ih _ (i + 1) (by rw [List.length_set]; exact hx) (fun e he => (List.mem_or_eq_of_mem_set he).elim (hb e) fun h => by rw [h]; exact hB) (by omega) (by omega) (by omega)
    · rw [if_neg h3, cond_false]
      exact ⟨x, rfl, hx⟩
theorem pair12 {key : List Int} (hk : key.length ≤ 100) : ∃ c h, shutterlaw25_pair.m key 2 6 = some (c, h, true) ∧ ∃ r, shutterref25_New.m 2 6 = some r ∧ CK 0 c r := by
  have ln : LN ⟨[], 0, 1, [], [], 1, 0, false⟩ := ⟨by simp, by simp, rfl, rfl, rfl, by decide, by decide, by decide, by decide⟩
  have us : U12 ⟨2, 6, List.replicate 12 ⟨false, ⟨false, false, 0, false⟩, 0⟩, 0, false, false⟩ := by
    refine ⟨⟨by simp, by simp, by decide, by decide, fun c hc => ?_, by decide, by simp⟩, rfl, rfl, by simp⟩
    rw [(List.mem_replicate.1 hc).2]; exact okz
  have gn : grid_New.m 2 6 = some (⟨2, 6, List.replicate 12 ⟨false, ⟨false, false, 0, false⟩, 0⟩, 0, false, false⟩, .nil) := by
    unfold grid_New.m mk
    rw [if_neg (by decide), if_neg (by decide), if_neg (by decide), if_pos (by decide), if_neg (by decide), show w64 (2 * 6) = 12 from by decide, if_pos (by unfold Lim; decide)]
    rfl
  have rn : shutterref25_New.m 2 6 = some ⟨⟨2, 6, List.replicate 12 ⟨false, ⟨false, false, 0, false⟩, 0⟩, 0, false, false⟩, []⟩ := by
    unfold shutterref25_New.m mk
    rw [show w64 (2 * 6) = 12 from by decide, if_pos (by unfold Lim; decide)]
    rfl
  unfold shutterlaw25_pair.m side_NewClient.m side_NewHost.m side_made.m line_New.m grid_Size.m
  rw [gn]
  simp only [Option.bind_some, if_true, List.length_replicate, clone_b (show key.length ≤ 100000 by omega)]
  rw [if_neg (by decide)]
  simp only [Option.bind_some, if_true]
  exact ⟨_, _, rfl, _, rn, ⟨us, rfl, rfl, ln, rfl, by simp, by simp, rfl, rfl, by simp⟩⟩
theorem awake25K : shutterlaw25_awake.m KK = some true := by kernel_rfl
theorem SideKeys_true (x0 : List Int) (x1 : List api_Key) (_ : ∀ y ∈ x0, Wf .u8 y) (_ : x0.length ≤ maxLen) (w1 : ∀ y ∈ x1, ok_api_Key y) (_ : x1.length ≤ maxLen) : shutterlaw25_SideKeys.m KK x0 x1 = some true := by
  unfold shutterlaw25_SideKeys.m
  simp only [awake25K, Option.bind_some, cond_true]
  by_cases hl : (x0.length : Int) > 100
  · rw [if_pos hl]
  rw [if_neg hl]
  by_cases hn : (x1.length : Int) > 60
  · rw [if_pos hn]
  rw [if_neg hn]
  obtain ⟨c, h, ep, r, er, C⟩ := pair12 (key := x0) (by omega)
  obtain ⟨c', r', el, C'⟩ := keys_l (x1 := x1) (by omega) w1 KK 0 c r (by omega) (by omega) (by unfold KK; omega) C
  have hs := C'.sl
  have ok' : ∀ b ∈ r'.Sent, 1 ≤ b.length ∧ b.length ≤ 64 := by rw [C'.sent]; exact C'.ok
  have hn' : r'.Sent.length ≤ 100 := by rw [C'.sent]; omega
  have e2 := sum_l hn' ok' KK 0 (by omega) (by omega) (by unfold KK; omega)
  obtain ⟨y, ey, hy⟩ := events_l (t := c'.events') (by rw [C'.ev]; omega) KK c'.events' 0 rfl C'.by' (by omega) (by omega) (by unfold KK; rw [C'.ev]; omega)
  have ecl : slices_Clone_api_Event.m c'.events' = some c'.events' := by
    unfold slices_Clone_api_Event.m
    rw [appk (by rw [C'.ev]; simp; omega)]; rfl
  have hsame : shutterref10_Same.m KK c'.s' r'.S = some true := by rw [C'.sc]; exact sameK C'.u.u.len
  have htx : side_texts.m KK c'.sent' = some c'.sent' := textsK (by omega) fun b hb => (C'.ok b hb).2
  have hst : shutterref23_SameTexts.m KK c'.sent' r'.Sent = some true := by rw [C'.sent]; exact sameTK (by omega)
  have hw : w64 ((c'.side'.line'.queue'.length : Int) + 0) = (r'.Sent.length : Int) := by
    rw [C'.ql, C'.sent, w64_id (by omega) (by omega)]; omega
  simp only [ep, Option.bind_some, cond_true, er, el, e2]
  unfold side_Client_Screen.m side_Client_Sent.m side_Client_Waits.m line_Line_Waits.m side_Client_Events.m
  simp only [copyU C'.u.u, Option.bind_some, hsame, cond_true, htx, hst, C'.td, List.length_nil, Int.ofNat_zero, hw, if_true, ecl, ey, hy, C'.ev, beq_self_eq_true]
end Go.Proofs.YtjkbhpokboolpaaGreatDoor.Sx
