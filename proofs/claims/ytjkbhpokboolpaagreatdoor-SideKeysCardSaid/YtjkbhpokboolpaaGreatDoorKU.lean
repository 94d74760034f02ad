import Derived.Test.YtjkbhpokboolpaaGreatDoorTR
import Derived.Test.YtjkbhpokboolpaaGreatDoorPG
namespace Go.Proofs.YtjkbhpokboolpaaGreatDoor.Sx
open Go
set_option maxRecDepth 100000
def okC (c : api_Cell) : Prop := c.Field = false ∧ c.Attr = ⟨false, false, 0, false⟩ ∧ Wf .u8 c.Char ∧ (c.Char = 0 ∨ ltr c.Char = true)
def CO (n : Nat) (l : List api_Cell) : Prop := l.length = n ∧ ∀ c ∈ l, okC c
structure US (s : api_Screen) : Prop where
  l0 : 1 ≤ s.Cells.length
  len : s.Cells.length ≤ 200
  co0 : 1 ≤ s.Cols
  co1 : s.Cols ≤ 200
  cell : ∀ c ∈ s.Cells, okC c
  c0 : 0 ≤ s.Cursor
  c1 : s.Cursor < (s.Cells.length : Int)
def Nx (s t : api_Screen) : Prop := US t ∧ t.Cells.length = s.Cells.length ∧ t.Cols = s.Cols
theorem w8_0 : Wf .u8 0 := wf8i (by decide) (by decide)
theorem okz : okC ⟨false, ⟨false, false, 0, false⟩, 0⟩ := ⟨rfl, rfl, w8_0, .inl rfl⟩
theorem okC.zero {c : api_Cell} (h : okC c) : okC ⟨c.Field, c.Attr, 0⟩ := ⟨h.1, h.2.1, w8_0, .inl rfl⟩
theorem okC.copy {c d : api_Cell} (h : okC c) (g : okC d) : okC ⟨c.Field, c.Attr, d.Char⟩ := ⟨h.1, h.2.1, g.2.2.1, g.2.2.2⟩
theorem CO.at {n : Nat} {l : List api_Cell} (h : CO n l) {i : Int} (h0 : 0 ≤ i) (h1 : i < (n : Int)) : okC (at_ l i) := h.2 _ (at_in h0 (by rw [h.1]; exact h1))
theorem CO.set {n : Nat} {l : List api_Cell} (h : CO n l) {i : Nat} {c : api_Cell} (k : okC c) : CO n (l.set i c) :=
  ⟨by rw [List.length_set]; exact h.1, fun x hx => (List.mem_or_eq_of_mem_set hx).elim (h.2 x) fun e => e ▸ k⟩
theorem US.co {s : api_Screen} (u : US s) : CO s.Cells.length s.Cells := ⟨rfl, u.cell⟩
theorem US.with {s : api_Screen} (u : US s) {l : List api_Cell} (h : CO s.Cells.length l) {c : Int} (c0 : 0 ≤ c) (c1 : c < (s.Cells.length : Int)) (r : Int) (a b : Bool) : Nx s ⟨r, s.Cols, l, c, a, b⟩ :=
  ⟨⟨by rw [h.1]; exact u.l0, by rw [h.1]; exact u.len, u.co0, u.co1, h.2, c0, by rw [h.1]; exact c1⟩, h.1, rfl⟩
theorem Nx.refl {s : api_Screen} (u : US s) : Nx s s := ⟨u, rfl, rfl⟩
section
variable {s : api_Screen}
theorem US.at (u : US s) {i : Int} (h0 : 0 ≤ i) (h1 : i < (s.Cells.length : Int)) : okC (at_ s.Cells i) := u.co.at h0 h1
theorem copyU (u : US s) : grid_Copy.m s = some s := by
  unfold grid_Copy.m slices_Clone_api_Cell.m
  rw [appk (by have := u.len; simp; omega)]
  rfl
theorem begin_lU (u : US s) : ∀ (l : List Int), (∀ x ∈ l, 0 ≤ x ∧ x < (s.Cells.length : Int)) → field_Begin.l1.m KK s l = some ()
  | [], _ => rfl
  | x :: l, h => by
    have hx := h x (List.mem_cons_self ..)
    rw [field_Begin.l1.m, if_pos hx.1, if_pos hx.2, (u.at hx.1 hx.2).1, cond_false]
    exact begin_lU u l fun y hy => h y (List.mem_cons_of_mem _ hy)
theorem beginU (u : US s) {a : Int} (h0 : 0 ≤ a) (h1 : a < (s.Cells.length : Int)) : field_Begin.m KK s a = some (-1) := by
  unfold field_Begin.m
  rw [if_pos h0, if_pos h1, (u.at h0 h1).1, cond_false, round_prev u.len h0 h1, Option.bind_some, begin_lU u _ (ring_in (fun _ a b => prv_in a b) _ _ (prv_in h0 h1).1 (prv_in h0 h1).2), Option.bind_some]
theorem ofU (u : US s) {a : Int} (h0 : 0 ≤ a) (h1 : a < (s.Cells.length : Int)) : field_Of.m KK s a = some ⟨false, false, 0, false⟩ := by
  unfold field_Of.m
  rw [beginU u h0 h1, Option.bind_some, if_pos (by decide)]
theorem openU (u : US s) {a : Int} (h0 : 0 ≤ a) (h1 : a < (s.Cells.length : Int)) : field_Open.m KK s a = some true := by
  unfold field_Open.m
  rw [if_pos h0, if_pos h1, (u.at h0 h1).1, cond_false, ofU u h0 h1, Option.bind_some]
  rfl
theorem allU (hl : s.Cells.length ≤ 200) : ∀ (m k : Nat) (i : Int) (acc : List Int), 0 ≤ i → i + m = (s.Cells.length : Int) → m < k → acc.length ≤ i →
    field_Cells.l1.m KK s k i acc = some (acc ++ ups m i) := by
  intro m
  induction m with
  | zero =>
    intro k i acc i0 i1 hk ha
    obtain ⟨k, rfl⟩ : ∃ q, k = q + 1 := ⟨k - 1, by omega⟩
    rw [field_Cells.l1.m]
    simp only [letJ]
    rw [if_neg (by omega), cond_false, ups]
    simp
  | succ m ih =>
    intro k i acc i0 i1 hk ha
    obtain ⟨k, rfl⟩ : ∃ q, k = q + 1 := ⟨k - 1, by omega⟩
    rw [field_Cells.l1.m]
    simp only [letJ]
    rw [if_pos (by omega), cond_true, appk (by simp; omega), Option.bind_some, w64_id (n := i + 1) (by omega) (by omega), ih k (i + 1) _ (by omega) (by omega) (by omega) (by simp; omega), ups]
    simp
theorem cellsU (u : US s) {a : Int} (h0 : 0 ≤ a) (h1 : a < (s.Cells.length : Int)) : field_Cells.m KK s a = some (ups s.Cells.length 0) := by
  unfold field_Cells.m
  rw [beginU u h0 h1, Option.bind_some]
  simp only [letJ, show (-1 : Int) < 0 ↔ True from by decide, if_true, cond_true, cond_false]
  rw [allU u.len s.Cells.length KK 0 [] (by omega) (by omega) (by have := u.len; unfold KK; omega) (by simp)]
  rfl
theorem at_ups : ∀ (m : Nat) (i j : Int), 0 ≤ j → j < m → at_ (ups m i) j = i + j
  | 0, i, j, h0, h1 => by omega
  | m + 1, i, j, h0, h1 => by
    by_cases e : j = 0
    · subst e; rw [ups]; unfold at_; simp
    · have h := at_ups m (i + 1) (j - 1) (by omega) (by omega)
      rw [ups]
      unfold at_ at h ⊢
      rw [show j.toNat = (j - 1).toNat + 1 by omega, List.getD_cons_succ, h]
      omega
theorem indexU {n : Nat} {a : Int} (h1 : a < (n : Int)) (hn : n ≤ 200) : ∀ (k : Nat) (i : Int), 0 ≤ i → i ≤ a → a - i < k → slices_Index_int.l1.m KK (ups n 0) a k i = some a := by
  intro k
  induction k with
  | zero => intro i _ _ h; omega
  | succ k ih =>
    intro i i0 i1 hk
    rw [slices_Index_int.l1.m, if_pos (by rw [ups_len]; omega), if_pos i0, at_ups n 0 i i0 (by omega)]
    by_cases e : a = 0 + i
    · rw [if_pos e]; congr 1; omega
    · rw [if_neg e, w64_id (n := i + 1) (by omega) (by omega)]
      exact ih (i + 1) (by omega) (by omega) (by omega)
theorem modifyU (u : US s) {a : Int} (h0 : 0 ≤ a) (h1 : a < (s.Cells.length : Int)) : edit_Modify.m KK s a = some s := by
  unfold edit_Modify.m
  rw [copyU u, Option.bind_some, beginU u h0 h1, Option.bind_some, if_neg (by decide)]
theorem fitsU (u : US s) (c : Int) : edit_fits.m KK s c = some .nil := by
  unfold edit_fits.m
  simp only [letJ, openU u u.c0 u.c1, Option.bind_some, cond_true, cond_false, ofU u u.c0 u.c1]
  split
  · rfl
  · split <;> rfl
theorem onwardU (u : US s) : edit_onward.m KK s = some (nxt s.Cells.length s.Cursor) := by
  obtain ⟨n0, n1⟩ := nxt_in u.c0 u.c1
  unfold edit_onward.m
  rw [on_next u.len u.c0 u.c1, Option.bind_some, if_pos n0, if_pos n1, (u.at n0 n1).1, cond_false]
theorem on_any (u : US s) {a n : Int} (h0 : 0 ≤ a) (h1 : a < (s.Cells.length : Int)) (n0 : -1000 ≤ n) (n1 : n ≤ 1000) : ∃ y, grid_On.m s a n = some y ∧ 0 ≤ y ∧ y < (s.Cells.length : Int) := by
  have hl := u.len
  have hl0 := u.l0
  unfold grid_On.m
  rw [if_pos (by omega)]
  generalize hN : (s.Cells.length : Int) = N at *
  have t0 : -N < Int.tmod n N := by
    rcases Int.le_total 0 n with h | h
    · have := Int.tmod_nonneg N h; omega
    · have := Int.tmod_lt_of_pos (-n) (show 0 < N by omega)
      rw [Int.neg_tmod] at this; omega
  have t1 : Int.tmod n N < N := Int.tmod_lt_of_pos n (by omega)
  rw [w64_id (n := a + Int.tmod n N) (by omega) (by omega), w64_id (by omega) (by omega)]
  have p : 0 ≤ a + Int.tmod n N + N := by omega
  exact ⟨_, rfl, Int.tmod_nonneg N p, Int.tmod_lt_of_pos _ (by omega)⟩
theorem round_any (u : US s) {a n : Int} (h0 : 0 ≤ a) (h1 : a < (s.Cells.length : Int)) (n0 : -1000 ≤ n) (n1 : n ≤ 1000) : ∃ l, field_round.m s a n = some l ∧ ∀ x ∈ l, 0 ≤ x ∧ x < (s.Cells.length : Int) := by
  have hl := u.len
  obtain ⟨y, e, y0, y1⟩ := on_any u h0 h1 n0 n1
  unfold field_round.m field_sign.m
  rw [if_pos (by omega), e, Option.bind_some]
  by_cases h : n < 0
  · rw [if_pos h, Option.bind_some, xs_ring (fun _ a b => on_prev hl a b) (fun _ a b => prv_in a b) _ _ y0 y1]
    exact ⟨_, rfl, ring_in (fun _ a b => prv_in a b) _ _ y0 y1⟩
  · rw [if_neg h, Option.bind_some, xs_ring (fun _ a b => on_next hl a b) (fun _ a b => nxt_in a b) _ _ y0 y1]
    exact ⟨_, rfl, ring_in (fun _ a b => nxt_in a b) _ _ y0 y1⟩
theorem first_lU (u : US s) : ∀ (l : List Int), (∀ x ∈ l, 0 ≤ x ∧ x < (s.Cells.length : Int)) → field_first__field_round_1.l1.m KK s l = some ()
  | [], _ => rfl
  | x :: l, h => by
    have hx := h x (List.mem_cons_self ..)
    rw [field_first__field_round_1.l1.m]
    unfold field_enters.m
    rw [if_pos hx.1, if_pos hx.2, (u.at hx.1 hx.2).1, cond_false, Option.bind_some, cond_false]
    exact first_lU u l fun y hy => h y (List.mem_cons_of_mem _ hy)
theorem nextU (u : US s) {a : Int} (h0 : 0 ≤ a) (h1 : a < (s.Cells.length : Int)) : field_Next.m KK s a = some (-1) := by
  obtain ⟨l, e, hl⟩ := round_any u h0 h1 (n := 1) (by omega) (by omega)
  unfold field_Next.m field_first__field_round_1.m
  simp only [e, Option.bind_some, first_lU u l hl]
theorem prevU (u : US s) {a : Int} (h0 : 0 ≤ a) (h1 : a < (s.Cells.length : Int)) : field_Prev.m KK s a = some (-1) := by
  obtain ⟨l, e, hl⟩ := round_any u h0 h1 (n := -2) (by omega) (by omega)
  unfold field_Prev.m field_first__field_round_1.m
  simp only [e, Option.bind_some, first_lU u l hl]
theorem mx0 : mx 0 (-1) = 0 := by decide
def dst (n t x : Int) : Int := if x ≤ t then t - x else t - x + n
theorem spanU (u : US s) {t : Int} (t0 : 0 ≤ t) (t1 : t < (s.Cells.length : Int)) : ∀ (k : Nat) (acc : List Int) (x : Int), 0 ≤ x → x < (s.Cells.length : Int) → dst s.Cells.length t x < k → (acc.length : Int) + dst s.Cells.length t x = (s.Cells.length : Int) →
    ∃ l, grid_Span.l1.m KK s t k acc x = some (acc ++ l) := by
  intro k
  have hl := u.len
  induction k with
  | zero => intro acc x x0 x1 h; unfold dst at h; split at h <;> omega
  | succ k ih =>
    intro acc x x0 x1 hk ha
    rw [grid_Span.l1.m]
    by_cases h : x = t
    · rw [if_pos h]; exact ⟨[], by simp⟩
    · have hd : dst s.Cells.length t (nxt s.Cells.length x) = dst s.Cells.length t x - 1 := by
        unfold dst nxt
        repeat' split
        all_goals omega
      have hd1 : 1 ≤ dst s.Cells.length t x := by unfold dst; split <;> omega
      obtain ⟨n0, n1⟩ := nxt_in x0 x1
      rw [if_neg h, if_pos (by omega), appk (by simp; omega), Option.bind_some, on_next hl x0 x1, Option.bind_some]
      obtain ⟨l, e⟩ := ih (acc ++ [x]) _ n0 n1 (by omega) (by rw [hd]; simp; omega)
      exact ⟨x :: l, by rw [e]; simp⟩
theorem wipe_lU (u : US s) : ∀ (k : Nat) (i : Int) (x : List api_Cell), 0 ≤ i → i ≤ (s.Cells.length : Int) → (s.Cells.length : Int) - i < k → CO s.Cells.length x → ∃ y, wipe_all.l1.m KK s k i x = some y ∧ CO s.Cells.length y := by
  have hl := u.len
  intro k
  induction k with
  | zero => intro i x _ _ h; omega
  | succ k ih =>
    intro i x i0 i1 hk hx
    rw [wipe_all.l1.m]
    simp only [letJ]
    by_cases h3 : i < (s.Cells.length : Int)
    · rw [if_pos h3, cond_true, openU u i0 h3, Option.bind_some, cond_true, if_pos i0, if_pos (by rw [hx.1]; exact h3), w64_id (n := i + 1) (by omega) (by omega)]
      exact ih (i + 1) _ (by omega) (by omega) (by omega) (hx.set (hx.at i0 h3).zero)
    · rw [if_neg h3, cond_false]; exact ⟨x, rfl, hx⟩
theorem wipe_loop (u : US s) (q : Int) {l : List Int} (hl : l.length ≤ 200) (hin : ∀ x ∈ l, 0 ≤ x ∧ x < (s.Cells.length : Int)) : ∀ (k : Nat) (i : Int) (x : List api_Cell), 0 ≤ i → i ≤ (l.length : Int) → (l.length : Int) - i < k → CO s.Cells.length x →
    ∃ y, wipe_Do.l1.m KK s q l k i x = some y ∧ CO s.Cells.length y := by
  intro k
  induction k with
  | zero => intro i x _ _ h; omega
  | succ k ih =>
    intro i x i0 i1 hk hx
    rw [wipe_Do.l1.m]
    simp only [letJ]
    by_cases h3 : i < (l.length : Int)
    · have hw : w64 (i + 1) = i + 1 := w64_id (by omega) (by omega)
      have a := hin _ (at_mem i0 h3)
      have h1 := hx.set (i := (at_ l i).toNat) (hx.at a.1 a.2).zero
      have stop : ∃ y, wipe_Do.l1.m KK s q l k (i + 1) (x.set (at_ l i).toNat (⟨(at_ x (at_ l i)).Field, ((at_ x (at_ l i)).Attr), 0⟩ : api_Cell)) = some y ∧ CO s.Cells.length y :=
        ih (i + 1) _ (by omega) (by omega) (by omega) h1
      rw [if_pos h3, cond_true, if_pos i0, if_pos h3, if_pos a.1, if_pos (by rw [hx.1]; exact a.2), hw]
      by_cases h12 : q = 12
      · rw [if_pos h12]
        by_cases h4 : i + 1 < (l.length : Int)
        · have b := hin _ (at_mem (l := l) (i := i + 1) (by omega) h4)
          rw [if_pos h4, cond_true, if_pos (by omega), if_pos h4, if_pos b.1, if_pos b.2, if_pos (by rw [h1.1]; exact a.2)]
          exact ih (i + 1) _ (by omega) (by omega) (by omega) (h1.set ((h1.at a.1 a.2).copy (u.at b.1 b.2)))
        · rw [if_neg h4, cond_false]; exact stop
      · rw [if_neg h12, cond_false]; exact stop
    · rw [if_neg h3, cond_false]; exact ⟨x, rfl, hx⟩
end
end Go.Proofs.YtjkbhpokboolpaaGreatDoor.Sx
