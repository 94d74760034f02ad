import Derived.Test.YtjkbhpokboolpaaGreatDoorTR
import Derived.Test.YtjkbhpokboolpaaGreatDoorPG
namespace Go.Proofs.YtjkbhpokboolpaaGreatDoor.Sx
open Go
set_option maxRecDepth 100000
def okC (c : api_Cell) : Prop := c.Field = false ∧ c.Attr = ⟨false, false, 0, false⟩ ∧ Wf .u8 c.Char ∧ (c.Char = 0 ∨ ltr c.Char = true)
def CO (n : Nat) (l : List api_Cell) : Prop := l.length = n ∧ ∀ c ∈ l, okC c
structure US (s : api_Screen) : Prop where
  l0 : 1 ≤ s.Cells.length
  len : s.Cells.length ≤ 200
  co0 : 1 ≤ s.Cols
  co1 : s.Cols ≤ 200
  cell : ∀ c ∈ s.Cells, okC c
  c0 : 0 ≤ s.Cursor
  c1 : s.Cursor < (s.Cells.length : Int)
def Nx (s t : api_Screen) : Prop := US t ∧ t.Cells.length = s.Cells.length ∧ t.Cols = s.Cols
theorem w8_0 : Wf .u8 0 := wf8i (by decide) (by decide)
theorem okz : okC ⟨false, ⟨false, false, 0, false⟩, 0⟩ := ⟨rfl, rfl, w8_0, .inl rfl⟩
theorem okC.zero {c : api_Cell} (h : okC c) : okC ⟨c.Field, c.Attr, 0⟩ := ⟨h.1, h.2.1, w8_0, .inl rfl⟩
theorem okC.copy {c d : api_Cell} (h : okC c) (g : okC d) : okC ⟨c.Field, c.Attr, d.Char⟩ := ⟨h.1, h.2.1, g.2.2.1, g.2.2.2⟩
theorem CO.at {n : Nat} {l : List api_Cell} (h : CO n l) {i : Int} (h0 : 0 ≤ i) (h1 : i < (n : Int)) : okC (at_ l i) := h.2 _ (at_in h0 (by rw [h.1]; exact h1))
theorem CO.set {n : Nat} {l : List api_Cell} (h : CO n l) {i : Nat} {c : api_Cell} (k : okC c) : CO n (l.set i c) :=
  ⟨by rw [List.length_set]; exact h.1, fun x hx => (List.mem_or_eq_of_mem_set hx).elim (h.2 x) fun e => e ▸ k⟩
theorem US.co {s : api_Screen} (u : US s) : CO s.Cells.length s.Cells := ⟨rfl, u.cell⟩
theorem US.with {s : api_Screen} (u : US s) {l : List api_Cell} (h : CO s.Cells.length l) {c : Int} (c0 : 0 ≤ c) (c1 : c < (s.Cells.length : Int)) (r : Int) (a b : Bool) : Nx s ⟨r, s.Cols, l, c, a, b⟩ :=
  ⟨⟨by rw [h.1]; exact u.l0, by rw [h.1]; exact u.len, u.co0, u.co1, h.2, c0, by rw [h.1]; exact c1⟩, h.1, rfl⟩
theorem Nx.refl {s : api_Screen} (u : US s) : Nx s s := ⟨u, rfl, rfl⟩
variable {s : api_Screen}
theorem US.at (u : US s) {i : Int} (h0 : 0 ≤ i) (h1 : i < (s.Cells.length : Int)) : okC (at_ s.Cells i) := u.co.at h0 h1
theorem copyU (u : US s) : grid_Copy.m s = some s := by
  unfold grid_Copy.m slices_Clone_api_Cell.m
  rw [appk (by have := u.len; simp; omega)]
  rfl
theorem begin_lU (u : US s) : ∀ (l : List Int), (∀ x ∈ l, 0 ≤ x ∧ x < (s.Cells.length : Int)) → field_Begin.l1.m KK s l = some ()
  | [], _ => rfl
  | x :: l, h => by
    have hx := h x (List.mem_cons_self ..)
    rw [field_Begin.l1.m, if_pos hx.1, if_pos hx.2, (u.at hx.1 hx.2).1, cond_false]
    exact begin_lU u l fun y hy => h y (List.mem_cons_of_mem _ hy)
theorem beginU (u : US s) {a : Int} (h0 : 0 ≤ a) (h1 : a < (s.Cells.length : Int)) : field_Begin.m KK s a = some (-1) := by
  unfold field_Begin.m
  rw [if_pos h0, if_pos h1, (u.at h0 h1).1, cond_false, round_prev u.len h0 h1, Option.bind_some, begin_lU u _ (ring_in (fun _ a b => prv_in a b) _ _ (prv_in h0 h1).1 (prv_in h0 h1).2), Option.bind_some]
theorem ofU (u : US s) {a : Int} (h0 : 0 ≤ a) (h1 : a < (s.Cells.length : Int)) : field_Of.m KK s a = some ⟨false, false, 0, false⟩ := by
  unfold field_Of.m
  rw [beginU u h0 h1, Option.bind_some, if_pos (by decide)]
theorem openU (u : US s) {a : Int} (h0 : 0 ≤ a) (h1 : a < (s.Cells.length : Int)) : field_Open.m KK s a = some true := by
  unfold field_Open.m
  rw [if_pos h0, if_pos h1, (u.at h0 h1).1, cond_false, ofU u h0 h1, Option.bind_some]
  rfl
theorem allU (hl : s.Cells.length ≤ 200) : ∀ (m k : Nat) (i : Int) (acc : List Int), 0 ≤ i → i + m = (s.Cells.length : Int) → m < k → acc.length ≤ i →
    field_Cells.l1.m KK s k i acc = some (acc ++ ups m i) := by
  intro m
  induction m with
  | zero =>
    intro k i acc i0 i1 hk ha
    obtain ⟨k, rfl⟩ : ∃ q, k = q + 1 := ⟨k - 1, by omega⟩
    rw [field_Cells.l1.m]
    simp only [letJ]
    rw [if_neg (by omega), cond_false, ups]
    simp
  | succ m ih =>
    intro k i acc i0 i1 hk ha
    obtain ⟨k, rfl⟩ : ∃ q, k = q + 1 := ⟨k - 1, by omega⟩
    rw [field_Cells.l1.m]
    simp only [letJ]
    rw [if_pos (by omega), cond_true, appk (by simp; omega), Option.bind_some, w64_id (n := i + 1) (by omega) (by omega), ih k (i + 1) _ (by omega) (by omega) (by omega) (by simp; omega), ups]
    simp
theorem cellsU (u : US s) {a : Int} (h0 : 0 ≤ a) (h1 : a < (s.Cells.length : Int)) : field_Cells.m KK s a = some (ups s.Cells.length 0) := by
  unfold field_Cells.m
  rw [beginU u h0 h1, Option.bind_some]
  simp only [letJ, show (-1 : Int) < 0 ↔ True from by decide, if_true, cond_true, cond_false]
  rw [allU u.len s.Cells.length KK 0 [] (by omega) (by omega) (by have := u.len; unfold KK; omega) (by simp)]
  rfl
theorem fitsU (u : US s) (c : Int) : edit_fits.m KK s c = some .nil := by
  unfold edit_fits.m
  simp only [letJ, openU u u.c0 u.c1, Option.bind_some, cond_true, cond_false, ofU u u.c0 u.c1]
  split
  · rfl
  · split <;> rfl
def dst (n t x : Int) : Int := if x ≤ t then t - x else t - x + n
end Go.Proofs.YtjkbhpokboolpaaGreatDoor.Sx
