import Derived.Test.YtjkbhpokboolpaaGreatDoorTR
import Derived.Test.YtjkbhpokboolpaaGreatDoorPG
namespace Go.Proofs.YtjkbhpokboolpaaGreatDoor.Sx
open Go
set_option maxRecDepth 100000
def okC (c : api_Cell) : Prop := c.Field = false ∧ c.Attr = ⟨false, false, 0, false⟩ ∧ Wf .u8 c.Char ∧ (c.Char = 0 ∨ ltr c.Char = true)
def CO (n : Nat) (l : List api_Cell) : Prop := l.length = n ∧ ∀ c ∈ l, okC c
structure US (s : api_Screen) : Prop where
  l0 : 1 ≤ s.Cells.length
  len : s.Cells.length ≤ 200
  co0 : 1 ≤ s.Cols
  co1 : s.Cols ≤ 200
  cell : ∀ c ∈ s.Cells, okC c
  c0 : 0 ≤ s.Cursor
  c1 : s.Cursor < (s.Cells.length : Int)
def Nx (s t : api_Screen) : Prop := US t ∧ t.Cells.length = s.Cells.length ∧ t.Cols = s.Cols
theorem w8_0 : Wf .u8 0 := wf8i (by decide) (by decide)
theorem okz : okC ⟨false, ⟨false, false, 0, false⟩, 0⟩ := ⟨rfl, rfl, w8_0, .inl rfl⟩
theorem okC.zero {c : api_Cell} (h : okC c) : okC ⟨c.Field, c.Attr, 0⟩ := ⟨h.1, h.2.1, w8_0, .inl rfl⟩
theorem okC.copy {c d : api_Cell} (h : okC c) (g : okC d) : okC ⟨c.Field, c.Attr, d.Char⟩ := ⟨h.1, h.2.1, g.2.2.1, g.2.2.2⟩
theorem CO.at {n : Nat} {l : List api_Cell} (h : CO n l) {i : Int} (h0 : 0 ≤ i) (h1 : i < (n : Int)) : okC (at_ l i) := h.2 _ (at_in h0 (by rw [h.1]; exact h1))
theorem CO.set {n : Nat} {l : List api_Cell} (h : CO n l) {i : Nat} {c : api_Cell} (k : okC c) : CO n (l.set i c) :=
  ⟨by rw [List.length_set]; exact h.1, fun x hx => (List.mem_or_eq_of_mem_set hx).elim (h.2 x) fun e => e ▸ k⟩
theorem US.co {s : api_Screen} (u : US s) : CO s.Cells.length s.Cells := ⟨rfl, u.cell⟩
theorem US.with {s : api_Screen} (u : US s) {l : List api_Cell} (h : CO s.Cells.length l) {c : Int} (c0 : 0 ≤ c) (c1 : c < (s.Cells.length : Int)) (r : Int) (a b : Bool) : Nx s ⟨r, s.Cols, l, c, a, b⟩ :=
  ⟨⟨by rw [h.1]; exact u.l0, by rw [h.1]; exact u.len, u.co0, u.co1, h.2, c0, by rw [h.1]; exact c1⟩, h.1, rfl⟩
theorem Nx.refl {s : api_Screen} (u : US s) : Nx s s := ⟨u, rfl, rfl⟩
section
variable {s : api_Screen}
theorem US.at (u : US s) {i : Int} (h0 : 0 ≤ i) (h1 : i < (s.Cells.length : Int)) : okC (at_ s.Cells i) := u.co.at h0 h1
theorem copyU (u : US s) : grid_Copy.m s = some s := by
  unfold grid_Copy.m slices_Clone_api_Cell.m
  rw [appk (by have := u.len; simp; omega)]
  rfl
theorem begin_lU (u : US s) : ∀ (l : List Int), (∀ x ∈ l, 0 ≤ x ∧ x < (s.Cells.length : Int)) → field_Begin.l1.m KK s l = some ()
  | [], _ => rfl
  | x :: l, h => by
    have hx := h x (List.mem_cons_self ..)
    rw [field_Begin.l1.m, if_pos hx.1, if_pos hx.2, (u.at hx.1 hx.2).1, cond_false]
    exact begin_lU u l fun y hy => h y (List.mem_cons_of_mem _ hy)
theorem beginU (u : US s) {a : Int} (h0 : 0 ≤ a) (h1 : a < (s.Cells.length : Int)) : field_Begin.m KK s a = some (-1) := by
  unfold field_Begin.m
  rw [if_pos h0, if_pos h1, (u.at h0 h1).1, cond_false, round_prev u.len h0 h1, Option.bind_some, begin_lU u _ (ring_in (fun _ a b => prv_in a b) _ _ (prv_in h0 h1).1 (prv_in h0 h1).2), Option.bind_some]
theorem ofU (u : US s) {a : Int} (h0 : 0 ≤ a) (h1 : a < (s.Cells.length : Int)) : field_Of.m KK s a = some ⟨false, false, 0, false⟩ := by
  unfold field_Of.m
  rw [beginU u h0 h1, Option.bind_some, if_pos (by decide)]
theorem openU (u : US s) {a : Int} (h0 : 0 ≤ a) (h1 : a < (s.Cells.length : Int)) : field_Open.m KK s a = some true := by
  unfold field_Open.m
  rw [if_pos h0, if_pos h1, (u.at h0 h1).1, cond_false, ofU u h0 h1, Option.bind_some]
  rfl
theorem allU (hl : s.Cells.length ≤ 200) : ∀ (m k : Nat) (i : Int) (acc : List Int), 0 ≤ i → i + m = (s.Cells.length : Int) → m < k → acc.length ≤ i →
    field_Cells.l1.m KK s k i acc = some (acc ++ ups m i) := by
  intro m
  induction m with
  | zero =>
    intro k i acc i0 i1 hk ha
    obtain ⟨k, rfl⟩ : ∃ q, k = q + 1 := ⟨k - 1, by omega⟩
    rw [field_Cells.l1.m]
    simp only [letJ]
    rw [if_neg (by omega), cond_false, ups]
    simp
  | succ m ih =>
    intro k i acc i0 i1 hk ha
    obtain ⟨k, rfl⟩ : ∃ q, k = q + 1 := ⟨k - 1, by omega⟩
    rw [field_Cells.l1.m]
    simp only [letJ]
    rw [if_pos (by omega), cond_true, appk (by simp; omega), Option.bind_some, w64_id (n := i + 1) (by omega) (by omega), ih k (i + 1) _ (by omega) (by omega) (by omega) (by simp; omega), ups]
    simp
theorem cellsU (u : US s) {a : Int} (h0 : 0 ≤ a) (h1 : a < (s.Cells.length : Int)) : field_Cells.m KK s a = some (ups s.Cells.length 0) := by
  unfold field_Cells.m
  rw [beginU u h0 h1, Option.bind_some]
  simp only [letJ, show (-1 : Int) < 0 ↔ True from by decide, if_true, cond_true, cond_false]
  rw [allU u.len s.Cells.length KK 0 [] (by omega) (by omega) (by have := u.len; unfold KK; omega) (by simp)]
  rfl
theorem at_ups : ∀ (m : Nat) (i j : Int), 0 ≤ j → j < m → at_ (ups m i) j = i + j
  | 0, i, j, h0, h1 => by omega
  | m + 1, i, j, h0, h1 => by
    by_cases e : j = 0
    · subst e; rw [ups]; unfold at_; simp
    · have h := at_ups m (i + 1) (j - 1) (by omega) (by omega)
      rw [ups]
      unfold at_ at h ⊢
      rw [show j.toNat = (j - 1).toNat + 1 by omega, List.getD_cons_succ, h]
      omega
theorem indexU {n : Nat} {a : Int} (h1 : a < (n : Int)) (hn : n ≤ 200) : ∀ (k : Nat) (i : Int), 0 ≤ i → i ≤ a → a - i < k → slices_Index_int.l1.m KK (ups n 0) a k i = some a := by
  intro k
  induction k with
  | zero => intro i _ _ h; omega
  | succ k ih =>
    intro i i0 i1 hk
    rw [slices_Index_int.l1.m, if_pos (by rw [ups_len]; omega), if_pos i0, at_ups n 0 i i0 (by omega)]
    by_cases e : a = 0 + i
    · rw [if_pos e]; congr 1; omega
    · rw [if_neg e, w64_id (n := i + 1) (by omega) (by omega)]
      exact ih (i + 1) (by omega) (by omega) (by omega)
theorem lineU (u : US s) {a : Int} (h0 : 0 ≤ a) (h1 : a < (s.Cells.length : Int)) : ∃ l, edit_Line.m KK s a = some l ∧ l.length ≤ 200 ∧ ∀ x ∈ l, 0 ≤ x ∧ x < (s.Cells.length : Int) := by
  have hl := u.len
  refine ⟨sub (ups s.Cells.length 0) a (s.Cells.length : Int), ?_, ?_, fun x hx => ?_⟩
  · unfold edit_Line.m slices_Index_int.m
    rw [openU u h0 h1, Option.bind_some, cond_true, cellsU u h0 h1, Option.bind_some, indexU h1 hl KK 0 (by omega) h0 (by unfold KK; omega), Option.bind_some, if_pos h0, ups_len, if_pos (by omega)]
  · have := sub_lenP (l := ups s.Cells.length 0) (i := a) (j := (s.Cells.length : Int))
    rw [ups_len] at this; omega
  · have hm : x ∈ ups s.Cells.length 0 := by
      unfold sub at hx
      exact List.mem_of_mem_drop (List.mem_of_mem_take hx)
    have := ups_in _ _ x hm
    omega
theorem modifyU (u : US s) {a : Int} (h0 : 0 ≤ a) (h1 : a < (s.Cells.length : Int)) : edit_Modify.m KK s a = some s := by
  unfold edit_Modify.m
  rw [copyU u, Option.bind_some, beginU u h0 h1, Option.bind_some, if_neg (by decide)]
theorem fitsU (u : US s) (c : Int) : edit_fits.m KK s c = some .nil := by
  unfold edit_fits.m
  simp only [letJ, openU u u.c0 u.c1, Option.bind_some, cond_true, cond_false, ofU u u.c0 u.c1]
  split
  · rfl
  · split <;> rfl
theorem onwardU (u : US s) : edit_onward.m KK s = some (nxt s.Cells.length s.Cursor) := by
  obtain ⟨n0, n1⟩ := nxt_in u.c0 u.c1
  unfold edit_onward.m
  rw [on_next u.len u.c0 u.c1, Option.bind_some, if_pos n0, if_pos n1, (u.at n0 n1).1, cond_false]
theorem freeU (u : US s) {l : List Int} (hl : l.length ≤ 200) (hin : ∀ x ∈ l, 0 ≤ x ∧ x < (s.Cells.length : Int)) : ∀ (k : Nat) (i : Int), 0 ≤ i → i ≤ (l.length : Int) → (l.length : Int) - i < k →
    (slices_IndexFunc_int__edit_pushed_1.l1.m KK l s k i = some (.inr ())) ∨ ∃ j, slices_IndexFunc_int__edit_pushed_1.l1.m KK l s k i = some (.inl j) ∧ 0 ≤ j ∧ j < (l.length : Int) := by
  intro k
  induction k with
  | zero => intro i _ _ h; omega
  | succ k ih =>
    intro i i0 i1 hk
    rw [slices_IndexFunc_int__edit_pushed_1.l1.m]
    simp only [letJ]
    by_cases h3 : i < (l.length : Int)
    · have hx := hin _ (at_mem i0 h3)
      rw [if_pos h3, cond_true, if_pos i0, if_pos h3]
      unfold edit_pushed_1.m
      rw [if_pos hx.1, if_pos hx.2, Option.bind_some]
      cases (at_ s.Cells (at_ l i)).Char == 0 with
      | true => exact .inr ⟨i, rfl, i0, h3⟩
      | false =>
        rw [cond_false, w64_id (n := i + 1) (by omega) (by omega)]
        exact ih (i + 1) (by omega) (by omega) (by omega)
    · rw [if_neg h3, cond_false]; exact .inl rfl
theorem pushU {n : Nat} {l : List Int} (hl : l.length ≤ 200) (hin : ∀ x ∈ l, 0 ≤ x ∧ x < (n : Int)) : ∀ (k : Nat) (i : Int) (x : List api_Cell), i < (l.length : Int) → 0 ≤ i → i < k → CO n x →
    ∃ y, edit_pushed.l1.m KK l k i x = some y ∧ CO n y := by
  intro k
  induction k with
  | zero => intro i x _ _ h; omega
  | succ k ih =>
    intro i x i1 i0 hk hx
    rw [edit_pushed.l1.m]
    by_cases h : i > 0
    · have hw : w64 (i - 1) = i - 1 := w64_id (by omega) (by omega)
      have a := hin _ (at_mem i0 i1)
      have b := hin _ (at_mem (l := l) (i := i - 1) (by omega) (by omega))
      rw [if_pos h, if_pos i0, if_pos i1, hw, if_pos (by omega), if_pos (by omega), if_pos b.1, hx.1, if_pos b.2, if_pos a.1, if_pos a.2]
      exact ih (i - 1) _ (by omega) (by omega) (by omega) (hx.set (hx.at b.1 b.2))
    · rw [if_neg h]; exact ⟨x, rfl, hx⟩
theorem pushedU (u : US s) {l : List Int} (hl : l.length ≤ 200) (hin : ∀ x ∈ l, 0 ≤ x ∧ x < (s.Cells.length : Int)) : ∃ b y, edit_pushed.m KK s l = some (b, y) ∧ CO s.Cells.length y := by
  unfold edit_pushed.m slices_IndexFunc_int__edit_pushed_1.m
  rcases freeU u hl hin KK 0 (by omega) (by omega) (by unfold KK; omega) with e | ⟨j, e, j0, j1⟩
  · rw [e]; exact ⟨false, s.Cells, rfl, u.co⟩
  · obtain ⟨y, ey, hy⟩ := pushU hl hin KK j s.Cells j1 j0 (by unfold KK; omega) u.co
    rw [e]
    simp only [Option.bind_some]
    rw [if_neg (by omega), ey]
    exact ⟨true, y, rfl, hy⟩
theorem typeU (u : US s) {c : Int} (wc : Wf .u8 c) : ∃ t e, edit_Type.m KK s c = some (t, e) ∧ Nx s t := by
  have hl := u.len
  unfold edit_Type.m
  simp only [letJ]
  by_cases c0 : c = 0
  · rw [if_pos c0]; exact ⟨s, _, rfl, Nx.refl u⟩
  rw [if_neg c0, char_eq, Option.bind_some]
  cases cc : chr c with
  | false => exact ⟨s, _, rfl, Nx.refl u⟩
  | true =>
    simp only [cond_true, cond_false]
    cases hL : s.Locked with
    | true => exact ⟨s, _, rfl, Nx.refl u⟩
    | false =>
      have okc : okC ⟨false, ⟨false, false, 0, false⟩, c⟩ := ⟨rfl, rfl, wc, .inr (by unfold ltr; rw [cc]; simpa using c0)⟩
      have key : ∀ (x : List api_Cell), CO s.Cells.length x → ∃ t e, (if 0 ≤ s.Cursor then (if s.Cursor < (x.length : Int) then ((edit_onward.m KK (⟨s.Rows, s.Cols, (x.set s.Cursor.toNat (⟨false, (⟨false, false, 0, false⟩ : api_Attr), c⟩ : api_Cell)), s.Cursor, s.Locked, s.Insert⟩ : api_Screen)).bind fun t6 => (some ((⟨s.Rows, s.Cols, (x.set s.Cursor.toNat (⟨false, (⟨false, false, 0, false⟩ : api_Attr), c⟩ : api_Cell)), t6, s.Locked, s.Insert⟩ : api_Screen), GoErr.nil))) else none) else none) = some (t, e) ∧ Nx s t := by
        intro x hx
        have hy := hx.set (i := s.Cursor.toNat) okc
        have hN := u.with hy u.c0 u.c1 s.Rows s.Locked s.Insert
        rw [if_pos u.c0, if_pos (by rw [hx.1]; exact u.c1), onwardU hN.1]
        obtain ⟨n0, n1⟩ := nxt_in u.c0 u.c1
        refine ⟨_, _, rfl, u.with hy ?_ ?_ s.Rows s.Locked s.Insert⟩
        · show 0 ≤ nxt _ _; rw [hy.1]; exact n0
        · show nxt _ _ < _; rw [hy.1]; exact n1
      rw [cond_false, fitsU u, Option.bind_some, if_pos rfl, modifyU u u.c0 u.c1, Option.bind_some]
      cases hI : s.Insert with
      | false =>
        rw [hI] at key
        rw [cond_false]
        exact key s.Cells u.co
      | true =>
        obtain ⟨l, el, hl2, hin⟩ := lineU u u.c0 u.c1
        obtain ⟨b, y, ey, hy⟩ := pushedU u hl2 hin
        rw [cond_true, el, Option.bind_some, ey, Option.bind_some]
        cases b with
        | true =>
          have q := key y hy
          rw [hI] at q
          simp only [cond_true]
          exact q
        | false =>
          simp only [cond_false]
          unfold edit_Deny.m
          rw [copyU u]
          exact ⟨_, _, rfl, u.with u.co u.c0 u.c1 s.Rows true s.Insert⟩
theorem on_any (u : US s) {a n : Int} (h0 : 0 ≤ a) (h1 : a < (s.Cells.length : Int)) (n0 : -1000 ≤ n) (n1 : n ≤ 1000) : ∃ y, grid_On.m s a n = some y ∧ 0 ≤ y ∧ y < (s.Cells.length : Int) := by
  have hl := u.len
  have hl0 := u.l0
  unfold grid_On.m
  rw [if_pos (by omega)]
  generalize hN : (s.Cells.length : Int) = N at *
  have t0 : -N < Int.tmod n N := by
    rcases Int.le_total 0 n with h | h
    · have := Int.tmod_nonneg N h; omega
    · have := Int.tmod_lt_of_pos (-n) (show 0 < N by omega)
      rw [Int.neg_tmod] at this; omega
  have t1 : Int.tmod n N < N := Int.tmod_lt_of_pos n (by omega)
  rw [w64_id (n := a + Int.tmod n N) (by omega) (by omega), w64_id (by omega) (by omega)]
  have p : 0 ≤ a + Int.tmod n N + N := by omega
  exact ⟨_, rfl, Int.tmod_nonneg N p, Int.tmod_lt_of_pos _ (by omega)⟩
theorem round_any (u : US s) {a n : Int} (h0 : 0 ≤ a) (h1 : a < (s.Cells.length : Int)) (n0 : -1000 ≤ n) (n1 : n ≤ 1000) : ∃ l, field_round.m s a n = some l ∧ ∀ x ∈ l, 0 ≤ x ∧ x < (s.Cells.length : Int) := by
  have hl := u.len
  obtain ⟨y, e, y0, y1⟩ := on_any u h0 h1 n0 n1
  unfold field_round.m field_sign.m
  rw [if_pos (by omega), e, Option.bind_some]
  by_cases h : n < 0
  · rw [if_pos h, Option.bind_some, xs_ring (fun _ a b => on_prev hl a b) (fun _ a b => prv_in a b) _ _ y0 y1]
    exact ⟨_, rfl, ring_in (fun _ a b => prv_in a b) _ _ y0 y1⟩
  · rw [if_neg h, Option.bind_some, xs_ring (fun _ a b => on_next hl a b) (fun _ a b => nxt_in a b) _ _ y0 y1]
    exact ⟨_, rfl, ring_in (fun _ a b => nxt_in a b) _ _ y0 y1⟩
theorem first_lU (u : US s) : ∀ (l : List Int), (∀ x ∈ l, 0 ≤ x ∧ x < (s.Cells.length : Int)) → field_first__field_round_1.l1.m KK s l = some ()
  | [], _ => rfl
  | x :: l, h => by
    have hx := h x (List.mem_cons_self ..)
    rw [field_first__field_round_1.l1.m]
    unfold field_enters.m
    rw [if_pos hx.1, if_pos hx.2, (u.at hx.1 hx.2).1, cond_false, Option.bind_some, cond_false]
    exact first_lU u l fun y hy => h y (List.mem_cons_of_mem _ hy)
theorem nextU (u : US s) {a : Int} (h0 : 0 ≤ a) (h1 : a < (s.Cells.length : Int)) : field_Next.m KK s a = some (-1) := by
  obtain ⟨l, e, hl⟩ := round_any u h0 h1 (n := 1) (by omega) (by omega)
  unfold field_Next.m field_first__field_round_1.m
  simp only [e, Option.bind_some, first_lU u l hl]
theorem prevU (u : US s) {a : Int} (h0 : 0 ≤ a) (h1 : a < (s.Cells.length : Int)) : field_Prev.m KK s a = some (-1) := by
  obtain ⟨l, e, hl⟩ := round_any u h0 h1 (n := -2) (by omega) (by omega)
  unfold field_Prev.m field_first__field_round_1.m
  simp only [e, Option.bind_some, first_lU u l hl]
theorem mx0 : mx 0 (-1) = 0 := by decide
theorem dupU (u : US s) : ∃ t e, keys_dup.m KK s = some (t, e) ∧ Nx s t := by
  obtain ⟨t, e, h, hn⟩ := typeU u (c := 28) (wf8i (by decide) (by decide))
  unfold keys_dup.m
  rw [h, Option.bind_some]
  by_cases he : e = .nil
  · simp only [he, if_true]
    have a1 : s.Cursor < (t.Cells.length : Int) := by rw [hn.2.1]; exact u.c1
    rw [nextU hn.1 u.c0 a1, Option.bind_some, mx0]
    refine ⟨_, _, rfl, ?_⟩
    have q := hn.1.with hn.1.co (c := 0) (by omega) (by have := hn.1.l0; omega) t.Rows t.Locked t.Insert
    exact ⟨q.1, q.2.1.trans hn.2.1, q.2.2.trans hn.2.2⟩
  · simp only [he, if_false]
    exact ⟨t, e, rfl, hn⟩
theorem setU (u : US s) (k : Int) : ∃ t e, keys_set.m s k = some (t, e) ∧ Nx s t := by
  unfold keys_set.m
  simp only [letJ, copyU u, Option.bind_some]
  by_cases h15 : k = 15
  · rw [if_pos h15]
    cases s.Locked with
    | true => exact ⟨s, _, rfl, Nx.refl u⟩
    | false =>
      rw [cond_false]
      split
      · exact ⟨_, _, rfl, u.with u.co u.c0 u.c1 _ _ _⟩
      · exact ⟨_, _, rfl, u.with u.co u.c0 u.c1 _ _ _⟩
  · rw [if_neg h15]
    split
    · exact ⟨_, _, rfl, u.with u.co u.c0 u.c1 _ _ _⟩
    · exact ⟨_, _, rfl, u.with u.co u.c0 u.c1 _ _ _⟩
def dst (n t x : Int) : Int := if x ≤ t then t - x else t - x + n
theorem spanU (u : US s) {t : Int} (t0 : 0 ≤ t) (t1 : t < (s.Cells.length : Int)) : ∀ (k : Nat) (acc : List Int) (x : Int), 0 ≤ x → x < (s.Cells.length : Int) → dst s.Cells.length t x < k → (acc.length : Int) + dst s.Cells.length t x = (s.Cells.length : Int) →
    ∃ l, grid_Span.l1.m KK s t k acc x = some (acc ++ l) := by
  intro k
  have hl := u.len
  induction k with
  | zero => intro acc x x0 x1 h; unfold dst at h; split at h <;> omega
  | succ k ih =>
    intro acc x x0 x1 hk ha
    rw [grid_Span.l1.m]
    by_cases h : x = t
    · rw [if_pos h]; exact ⟨[], by simp⟩
    · have hd : dst s.Cells.length t (nxt s.Cells.length x) = dst s.Cells.length t x - 1 := by
        unfold dst nxt
        repeat' split
        all_goals omega
      have hd1 : 1 ≤ dst s.Cells.length t x := by unfold dst; split <;> omega
      obtain ⟨n0, n1⟩ := nxt_in x0 x1
      rw [if_neg h, if_pos (by omega), appk (by simp; omega), Option.bind_some, on_next hl x0 x1, Option.bind_some]
      obtain ⟨l, e⟩ := ih (acc ++ [x]) _ n0 n1 (by omega) (by rw [hd]; simp; omega)
      exact ⟨x :: l, by rw [e]; simp⟩
theorem move_lineU (u : US s) : ∃ y, move_line.m KK s = some y ∧ 0 ≤ y ∧ y < (s.Cells.length : Int) := by
  have hl := u.len; have c0 := u.c0; have c1 := u.c1; have o0 := u.co0; have o1 := u.co1
  have m0 : 0 ≤ Int.tmod s.Cursor s.Cols := Int.tmod_nonneg _ c0
  have m1 : Int.tmod s.Cursor s.Cols ≤ s.Cursor := by
    rw [Int.tmod_eq_emod_of_nonneg c0]
    have a := Int.mul_ediv_add_emod s.Cursor s.Cols
    have b := Int.mul_nonneg (show 0 ≤ s.Cols by omega) (Int.ediv_nonneg c0 (show 0 ≤ s.Cols by omega))
    omega
  obtain ⟨t, e, t0, t1⟩ := on_any u (a := s.Cursor - Int.tmod s.Cursor s.Cols) (n := s.Cols) (by omega) (by omega) (by omega) (by omega)
  obtain ⟨n0, n1⟩ := nxt_in t0 t1
  have hd : dst s.Cells.length t (nxt s.Cells.length t) + 1 = s.Cells.length := by
    unfold dst nxt
    repeat' split
    all_goals omega
  have hl0 := u.l0
  obtain ⟨l, el⟩ := spanU u t0 t1 KK [t] _ n0 n1 (by unfold KK; omega) (by simp; omega)
  unfold move_line.m grid_Span.m
  rw [if_pos (by omega), w64_id (by omega) (by omega), e, Option.bind_some, on_next hl t0 t1, Option.bind_some, el, Option.bind_some]
  simp only [Option.bind_some]
  refine ⟨t, ?_, t0, t1⟩
  show move_line.l1.m KK s (t :: l) (1048575 + 1) 0 = some t
  rw [move_line.l1.m, if_pos (by simp), if_pos (by omega), show at_ (t :: l) 0 = t from rfl, openU u t0 t1]
  rfl
theorem move_toU (u : US s) (k : Int) : ∃ y, move_to.m KK s k = some y ∧ 0 ≤ y ∧ y < (s.Cells.length : Int) := by
  have hl := u.len; have c0 := u.c0; have c1 := u.c1; have o0 := u.co0; have o1 := u.co1; have l0 := u.l0
  have z : ∀ {m : Option Int}, m = some (-1) → ∃ y, (m.bind fun t => some (mx 0 t)) = some y ∧ 0 ≤ y ∧ y < (s.Cells.length : Int) := fun h => by rw [h]; exact ⟨0, rfl, by omega, by omega⟩
  have w : ∀ {m : Option Int}, (∃ y, m = some y ∧ 0 ≤ y ∧ y < (s.Cells.length : Int)) → ∃ y, (m.bind fun t => some t) = some y ∧ 0 ≤ y ∧ y < (s.Cells.length : Int) := fun h => by obtain ⟨y, e, p⟩ := h; rw [e]; exact ⟨y, rfl, p⟩
  unfold move_to.m
  by_cases h : k = 4
  · rw [if_pos h]; exact w (on_any u c0 c1 (by rw [w64_id (by omega) (by omega)]; omega) (by rw [w64_id (by omega) (by omega)]; omega))
  rw [if_neg h]
  by_cases h : k = 2
  · rw [if_pos h]; exact w (on_any u c0 c1 (by decide) (by decide))
  rw [if_neg h]
  by_cases h : k = 5
  · rw [if_pos h]; exact w (on_any u c0 c1 (by omega) (by omega))
  rw [if_neg h]
  by_cases h : k = 3
  · rw [if_pos h]; exact w (on_any u c0 c1 (by omega) (by omega))
  rw [if_neg h]
  by_cases h : k = 7
  · rw [if_pos h]; exact z (prevU u c0 c1)
  rw [if_neg h]
  by_cases h : k = 6
  · rw [if_pos h]; exact z (nextU u c0 c1)
  rw [if_neg h]
  by_cases h : k = 8
  · rw [if_pos h, w64_id (by omega) (by omega)]; exact z (nextU u (by omega) (by omega))
  rw [if_neg h]
  exact w (move_lineU u)
theorem moveU (u : US s) {k : Int} (hk : move_Moves.m k = some true) : ∃ t e, move_Do.m KK s k = some (t, e) ∧ Nx s t := by
  unfold move_Do.m
  rw [hk, Option.bind_some, cond_true]
  cases s.Locked with
  | true => exact ⟨s, _, rfl, Nx.refl u⟩
  | false =>
    obtain ⟨y, e, y0, y1⟩ := move_toU u k
    rw [cond_false, copyU u, Option.bind_some, e]
    exact ⟨_, _, rfl, u.with u.co y0 y1 _ _ _⟩
theorem resetU {n : Nat} {t : api_Screen} (ht : t.Cells.length = n) (hn : n ≤ 200) : ∀ (k : Nat) (x : List api_Cell) (i : Int), 0 ≤ i → i ≤ (n : Int) → (n : Int) - i < k → CO n x → ∃ y, host_Reset.l1.m KK false t k x i = some y ∧ CO n y := by
  intro k
  induction k with
  | zero => intro x i _ _ h; omega
  | succ k ih =>
    intro x i i0 i1 hk hx
    rw [host_Reset.l1.m]
    simp only [letJ]
    by_cases h3 : i < (n : Int)
    · have q := hx.at i0 h3
      rw [if_pos (by rw [ht]; exact h3), cond_true, if_pos i0, if_pos (by rw [hx.1]; exact h3), cond_false, q.2.1]
      simp only [cond_false]
      rw [w64_id (n := i + 1) (by omega) (by omega)]
      refine ih _ (i + 1) (by omega) (by omega) (by omega) (hx.set ⟨q.1, ?_, q.2.2.1, q.2.2.2⟩)
      rfl
    · rw [if_neg (by rw [ht]; exact h3), cond_false]; exact ⟨x, rfl, hx⟩
theorem wipe_lU (u : US s) : ∀ (k : Nat) (i : Int) (x : List api_Cell), 0 ≤ i → i ≤ (s.Cells.length : Int) → (s.Cells.length : Int) - i < k → CO s.Cells.length x → ∃ y, wipe_all.l1.m KK s k i x = some y ∧ CO s.Cells.length y := by
  have hl := u.len
  intro k
  induction k with
  | zero => intro i x _ _ h; omega
  | succ k ih =>
    intro i x i0 i1 hk hx
    rw [wipe_all.l1.m]
    simp only [letJ]
    by_cases h3 : i < (s.Cells.length : Int)
    · rw [if_pos h3, cond_true, openU u i0 h3, Option.bind_some, cond_true, if_pos i0, if_pos (by rw [hx.1]; exact h3), w64_id (n := i + 1) (by omega) (by omega)]
      exact ih (i + 1) _ (by omega) (by omega) (by omega) (hx.set (hx.at i0 h3).zero)
    · rw [if_neg h3, cond_false]; exact ⟨x, rfl, hx⟩
theorem wipe_allU (u : US s) : ∃ t, wipe_all.m KK s = some t ∧ Nx s t := by
  have hl := u.len; have l0 := u.l0
  obtain ⟨y, e1, h1⟩ := resetU (n := s.Cells.length) (t := s) rfl hl KK s.Cells 0 (by omega) (by omega) (by unfold KK; omega) u.co
  obtain ⟨z, e2, h2⟩ := wipe_lU u KK 0 y (by omega) (by omega) (by unfold KK; omega) h1
  unfold wipe_all.m host_Reset.m grid_Size.m
  rw [copyU u, Option.bind_some, e1]
  simp only [Option.bind_some, e2]
  rw [w64_id (by omega) (by omega), nextU u (by omega) (by omega), Option.bind_some, mx0]
  exact ⟨_, rfl, u.with h2 (by omega) (by omega) _ _ _⟩
theorem wipe_loop (u : US s) (q : Int) {l : List Int} (hl : l.length ≤ 200) (hin : ∀ x ∈ l, 0 ≤ x ∧ x < (s.Cells.length : Int)) : ∀ (k : Nat) (i : Int) (x : List api_Cell), 0 ≤ i → i ≤ (l.length : Int) → (l.length : Int) - i < k → CO s.Cells.length x →
    ∃ y, wipe_Do.l1.m KK s q l k i x = some y ∧ CO s.Cells.length y := by
  intro k
  induction k with
  | zero => intro i x _ _ h; omega
  | succ k ih =>
    intro i x i0 i1 hk hx
    rw [wipe_Do.l1.m]
    simp only [letJ]
    by_cases h3 : i < (l.length : Int)
    · have hw : w64 (i + 1) = i + 1 := w64_id (by omega) (by omega)
      have a := hin _ (at_mem i0 h3)
      have h1 := hx.set (i := (at_ l i).toNat) (hx.at a.1 a.2).zero
      have stop : ∃ y, wipe_Do.l1.m KK s q l k (i + 1) (x.set (at_ l i).toNat (⟨(at_ x (at_ l i)).Field, ((at_ x (at_ l i)).Attr), 0⟩ : api_Cell)) = some y ∧ CO s.Cells.length y :=
        ih (i + 1) _ (by omega) (by omega) (by omega) h1
      rw [if_pos h3, cond_true, if_pos i0, if_pos h3, if_pos a.1, if_pos (by rw [hx.1]; exact a.2), hw]
      by_cases h12 : q = 12
      · rw [if_pos h12]
        by_cases h4 : i + 1 < (l.length : Int)
        · have b := hin _ (at_mem (l := l) (i := i + 1) (by omega) h4)
          rw [if_pos h4, cond_true, if_pos (by omega), if_pos h4, if_pos b.1, if_pos b.2, if_pos (by rw [h1.1]; exact a.2)]
          exact ih (i + 1) _ (by omega) (by omega) (by omega) (h1.set ((h1.at a.1 a.2).copy (u.at b.1 b.2)))
        · rw [if_neg h4, cond_false]; exact stop
      · rw [if_neg h12, cond_false]; exact stop
    · rw [if_neg h3, cond_false]; exact ⟨x, rfl, hx⟩
theorem wipeU (u : US s) {k : Int} (hk : wipe_Wipes.m k = some true) : ∃ t e, wipe_Do.m KK s k = some (t, e) ∧ Nx s t := by
  unfold wipe_Do.m
  simp only [letJ, hk, Option.bind_some, cond_true]
  cases s.Locked with
  | true => exact ⟨s, _, rfl, Nx.refl u⟩
  | false =>
    simp only [cond_false]
    by_cases h : k = 14
    · obtain ⟨t, e, hn⟩ := wipe_allU u
      rw [if_pos h, e]
      exact ⟨t, _, rfl, hn⟩
    · obtain ⟨l, el, hl, hin⟩ := lineU u u.c0 u.c1
      obtain ⟨y, ey, hy⟩ := wipe_loop u k hl hin KK 0 s.Cells (by omega) (by omega) (by unfold KK; omega) u.co
      rw [if_neg h, openU u u.c0 u.c1, Option.bind_some, cond_true, el, Option.bind_some, modifyU u u.c0 u.c1, Option.bind_some, ey]
      exact ⟨_, _, rfl, u.with hy u.c0 u.c1 _ _ _⟩
theorem plainU (u : US s) {k : api_Key} (wc : Wf .u8 k.Char) : ∃ t e, keys_plain.m KK s k = some (t, e) ∧ Nx s t := by
  have pass : ∀ {m : Option (api_Screen × GoErr)}, (∃ t e, m = some (t, e) ∧ Nx s t) → ∃ t e, (m.bind fun t => some (t.1, t.2)) = some (t, e) ∧ Nx s t := fun h => by
    obtain ⟨t, e, q, hn⟩ := h; rw [q]; exact ⟨t, e, rfl, hn⟩
  unfold keys_plain.m
  simp only [letJ]
  cases hm : move_Moves.m k.Kind with
  | none => unfold move_Moves.m at hm; split at hm <;> cases hm
  | some b =>
    cases b with
    | true => exact pass (moveU u hm)
    | false =>
      simp only [Option.bind_some, cond_false]
      cases hw : wipe_Wipes.m k.Kind with
      | none => unfold wipe_Wipes.m at hw; split at hw <;> cases hw
      | some b =>
        cases b with
        | true => exact pass (wipeU u hw)
        | false =>
          simp only [Option.bind_some, cond_false]
          by_cases h : k.Kind = 11
          · rw [if_pos h]; exact pass (typeU u (wf8i (by decide) (by decide)))
          rw [if_neg h]
          by_cases h : k.Kind = 1
          · rw [if_pos h]; exact pass (typeU u wc)
          rw [if_neg h]
          by_cases h : k.Kind = 10
          · rw [if_pos h]; exact pass (dupU u)
          rw [if_neg h]
          by_cases h : k.Kind = 15
          · rw [if_pos h]; exact pass (setU u _)
          rw [if_neg h]
          by_cases h : k.Kind = 16
          · rw [if_pos h]; exact pass (setU u _)
          rw [if_neg h]
          exact ⟨s, _, rfl, Nx.refl u⟩
theorem keysU (u : US s) {k : api_Key} (wc : Wf .u8 k.Char) : ∃ t a e, keys_Do.m KK s k = some (t, a, e) ∧ Nx s t ∧ (a = true → attr_Aid.m k.Char = some true ∧ e = .nil) := by
  unfold keys_Do.m
  simp only [letJ]
  by_cases h : k.Kind = 17
  · rw [if_pos h, cond_true]
    unfold keys_asks.m
    simp only [letJ]
    rw [aid_eq, Option.bind_some]
    cases ha : aidC k.Char with
    | false => exact ⟨s, false, _, rfl, Nx.refl u, fun x => by cases x⟩
    | true =>
      simp only [cond_true, cond_false]
      cases s.Locked with
      | true => exact ⟨s, false, _, rfl, Nx.refl u, fun x => by cases x⟩
      | false =>
        rw [cond_false, copyU u, Option.bind_some]
        by_cases h9 : k.Char = 109
        · rw [if_pos h9]
          refine ⟨_, true, _, rfl, u.with ⟨by simp, fun c hc => ?_⟩ (by omega) (by have := u.l0; omega) _ _ _, fun _ => ⟨by first | trivial | rfl, rfl⟩⟩
          rw [(List.mem_replicate.1 hc).2]; exact okz
        · rw [if_neg h9]
          exact ⟨_, true, _, rfl, u.with u.co u.c0 u.c1 _ _ _, fun _ => ⟨by first | trivial | rfl, rfl⟩⟩
  · obtain ⟨t, e, q, hn⟩ := plainU u wc
    rw [if_neg h, cond_false, q]
    exact ⟨t, false, e, rfl, hn, fun x => by cases x⟩
end
end Go.Proofs.YtjkbhpokboolpaaGreatDoor.Sx
