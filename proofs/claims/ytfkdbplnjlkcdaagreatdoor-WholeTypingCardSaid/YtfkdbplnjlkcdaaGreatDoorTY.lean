import Derived.Test.YtfkdbplnjlkcdaaGreatDoorTR
namespace Go.Proofs.YtfkdbplnjlkcdaaGreatDoor.Sx
open Go
set_option maxRecDepth 100000
def pl (n k j : Int) : Int := if k + 1 + j < n then k + 1 + j else k + 1 + j - n
theorem pl_c (n k j : Int) : (k + 1 + j < n ∧ pl n k j = k + 1 + j) ∨ (¬ k + 1 + j < n ∧ pl n k j = k + 1 + j - n) := by
  unfold pl
  split
  · exact .inl ⟨‹_›, rfl⟩
  · exact .inr ⟨‹_›, rfl⟩
def ds (n k i : Int) : Int := if k < i then i - k - 1 else i - k - 1 + n
def cellT (n k : Int) (w : List Int) (m : Bool) (i : Int) : api_Cell := if i = k then ⟨true, ⟨false, false, 0, m⟩, 0⟩ else ⟨false, ⟨false, false, 0, false⟩, w.getD (ds n k i).toNat 0⟩
def cellsT (n : Nat) (k : Int) (w : List Int) (m : Bool) : List api_Cell := (List.range n).map fun (i : Nat) => cellT n k w m (i : Int)
theorem len_T {n : Nat} {k : Int} {w : List Int} {m : Bool} : (cellsT n k w m).length = n := by simp [cellsT]
theorem at_T {n : Nat} {k i : Int} {w : List Int} {m : Bool} (h0 : 0 ≤ i) (h1 : i < (n : Int)) : at_ (cellsT n k w m) i = cellT n k w m i := by
  unfold at_ cellsT
  rw [List.getD_eq_getElem?_getD, List.getElem?_map, List.getElem?_range (by omega)]
  simp only [Option.map_some, Option.getD_some]
  rw [Int.toNat_of_nonneg h0]
theorem set_map {n p : Nat} {f f' : Nat → api_Cell} {c : api_Cell} (h : ∀ i, i < n → f' i = if i = p then c else f i) : ((List.range n).map f).set p c = (List.range n).map f' := by
  apply List.ext_getElem
  · simp
  · intro i h1 h2
    have hi : i < n := by simpa using h2
    rw [List.getElem_set, List.getElem_map, List.getElem_map, List.getElem_range, h i hi]
    by_cases e : p = i
    · rw [if_pos e, if_pos e.symm]
    · rw [if_neg e, if_neg (fun x => e x.symm)]
theorem getD_snoc {w : List Int} {c : Int} {d : Nat} : (w ++ [c]).getD d 0 = if d = w.length then c else w.getD d 0 := by
  rw [List.getD_eq_getElem?_getD, List.getD_eq_getElem?_getD, List.getElem?_append]
  by_cases h : d < w.length
  · rw [if_pos h, if_neg (by omega)]
  · rw [if_neg h]
    by_cases e : d = w.length
    · rw [if_pos e, e, Nat.sub_self]; rfl
    · rw [if_neg e, List.getElem?_eq_none (by simp; omega), List.getElem?_eq_none (by omega)]
section
variable {n : Nat} {k : Int} {w : List Int} {m : Bool} {s : api_Screen}
theorem set_F (k0 : 0 ≤ k) : (cellsT n k w m).set k.toNat ⟨true, ⟨false, false, 0, true⟩, 0⟩ = cellsT n k w true := by
  unfold cellsT
  refine set_map fun i _ => ?_
  unfold cellT
  by_cases e : (i : Int) = k
  · rw [if_pos e, if_pos (by omega)]
  · rw [if_neg e, if_neg (by omega), if_neg e]
theorem pl_in (k0 : 0 ≤ k) (k1 : k < (n : Int)) {j : Nat} (hj : j < n - 1) : 0 ≤ pl n k j ∧ pl n k j < (n : Int) ∧ pl n k j ≠ k ∧ ds n k (pl n k j) = j := by
  have a := pl_c n k j
  refine ⟨by omega, by omega, by omega, ?_⟩
  unfold ds
  split <;> omega
theorem set_L (k0 : 0 ≤ k) (k1 : k < (n : Int)) (hw : w.length < n - 1) (c : Int) : (cellsT n k w m).set (pl n k w.length).toNat ⟨false, ⟨false, false, 0, false⟩, c⟩ = cellsT n k (w ++ [c]) m := by
  obtain ⟨p0, p1, p2, p3⟩ := pl_in k0 k1 hw
  unfold cellsT
  refine set_map fun i hi => ?_
  unfold cellT
  by_cases e : (i : Int) = k
  · rw [if_pos e, if_neg (by omega), if_pos e]
  · rw [if_neg e, if_neg e, getD_snoc]
    by_cases q : (i : Int) = pl n k w.length
    · rw [if_pos (show i = (pl n k w.length).toNat by omega), q, p3, if_pos (by omega)]
    · rw [if_neg (show ¬ i = (pl n k w.length).toNat by omega), if_neg]
      intro x
      have h1 : ds n k i = w.length := by
        have : 0 ≤ ds n k i := by unfold ds; split <;> omega
        omega
      apply q
      have a := pl_c n k w.length
      unfold ds at h1
      split at h1 <;> omega
def pb (n k : Int) (t : Nat) : Int := if t = 0 then k else pl n k ((t : Int) - 1)
def pe (n : Nat) (k : Int) (t : Nat) : Int := if t = n - 1 then k else pl n k t
theorem pb_s {n k : Int} {t : Nat} : pb n k (t + 1) = pl n k t := by
  unfold pb
  rw [if_neg (by omega)]
  congr 1
  omega
theorem prv_pb (k0 : 0 ≤ k) (k1 : k < (n : Int)) {t : Nat} (ht : t + 1 ≤ n - 1) : prv n (pb n k (t + 1)) = pb n k t := by
  rw [pb_s]
  have a := pl_c n k t
  have b := pl_c n k ((t : Int) - 1)
  unfold pb prv
  split <;> split <;> omega
theorem nxt_pe (k0 : 0 ≤ k) (k1 : k < (n : Int)) {t : Nat} (ht : t < n - 1) : nxt n (pl n k t) = pe n k (t + 1) := by
  have a := pl_c n k t
  have b := pl_c n k ((t + 1 : Nat) : Int)
  unfold pe nxt
  split <;> split <;> omega
theorem nxt_k (k0 : 0 ≤ k) (k1 : k < (n : Int)) (n2 : 2 ≤ n) : nxt n k = pl n k 0 := by
  have a := pl_c n k 0
  unfold nxt
  split <;> omega
theorem cell_k (hs : s.Cells = cellsT n k w m) (k0 : 0 ≤ k) (k1 : k < (n : Int)) : at_ s.Cells k = ⟨true, ⟨false, false, 0, m⟩, 0⟩ := by
  rw [hs, at_T k0 k1]; unfold cellT; rw [if_pos rfl]
theorem cell_j (hs : s.Cells = cellsT n k w m) (k0 : 0 ≤ k) (k1 : k < (n : Int)) {j : Nat} (hj : j < n - 1) : at_ s.Cells (pl n k j) = ⟨false, ⟨false, false, 0, false⟩, w.getD j 0⟩ := by
  obtain ⟨p0, p1, p2, p3⟩ := pl_in k0 k1 hj
  rw [hs, at_T p0 p1]; unfold cellT; rw [if_neg p2, p3, Int.toNat_natCast]
theorem len_s (hs : s.Cells = cellsT n k w m) : s.Cells.length = n := by rw [hs, len_T]
theorem begin_l (hs : s.Cells = cellsT n k w m) (k0 : 0 ≤ k) (k1 : k < (n : Int)) : ∀ (t q : Nat), t < q → t ≤ n - 1 → field_Begin.l1.m KK s (ring (prv n) q (pb n k t)) = some (.inl k) := by
  intro t
  induction t with
  | zero =>
    intro q hq _
    obtain ⟨q, rfl⟩ : ∃ q', q = q' + 1 := ⟨q - 1, by omega⟩
    rw [ring, show pb n k 0 = k from if_pos rfl, field_Begin.l1.m, if_pos k0, if_pos (by rw [len_s hs]; exact k1), cell_k hs k0 k1]
    rfl
  | succ t ih =>
    intro q hq ht
    obtain ⟨q, rfl⟩ : ∃ q', q = q' + 1 := ⟨q - 1, by omega⟩
    have e : pb n k (t + 1) = pl n k t := pb_s
    obtain ⟨p0, p1, p2, p3⟩ := pl_in k0 k1 (show t < n - 1 by omega)
    rw [ring, prv_pb k0 k1 ht, field_Begin.l1.m, e, if_pos p0, if_pos (by rw [len_s hs]; exact p1), cell_j hs k0 k1 (by omega), cond_false]
    exact ih q (by omega) (by omega)
theorem begin_j (hs : s.Cells = cellsT n k w m) (hn : n ≤ 200) (k0 : 0 ≤ k) (k1 : k < (n : Int)) {j : Nat} (hj : j < n - 1) : field_Begin.m KK s (pl n k j) = some k := by
  have hl := len_s hs
  obtain ⟨p0, p1, p2, p3⟩ := pl_in k0 k1 hj
  unfold field_Begin.m
  rw [if_pos p0, if_pos (by rw [hl]; exact p1), cell_j hs k0 k1 hj, cond_false, round_prev (by omega) p0 (by rw [hl]; exact p1), Option.bind_some, hl]
  have e : prv n (pl n k j) = pb n k j := by
    have := prv_pb k0 k1 (t := j) (by omega)
    rw [← this, pb_s]
  rw [e, begin_l hs k0 k1 j n (by omega) (by omega), Option.bind_some]
theorem of_j (hs : s.Cells = cellsT n k w m) (hn : n ≤ 200) (k0 : 0 ≤ k) (k1 : k < (n : Int)) {j : Nat} (hj : j < n - 1) : field_Of.m KK s (pl n k j) = some ⟨false, false, 0, m⟩ := by
  unfold field_Of.m
  rw [begin_j hs hn k0 k1 hj, Option.bind_some, if_neg (by omega), if_pos k0, if_pos (by rw [len_s hs]; exact k1), cell_k hs k0 k1]
theorem open_j (hs : s.Cells = cellsT n k w m) (hn : n ≤ 200) (k0 : 0 ≤ k) (k1 : k < (n : Int)) {j : Nat} (hj : j < n - 1) : field_Open.m KK s (pl n k j) = some true := by
  obtain ⟨p0, p1, p2, p3⟩ := pl_in k0 k1 hj
  unfold field_Open.m
  rw [if_pos p0, if_pos (by rw [len_s hs]; exact p1), cell_j hs k0 k1 hj, cond_false, of_j hs hn k0 k1 hj, Option.bind_some]
  rfl
theorem fits_j (hs : s.Cells = cellsT n k w m) (hn : n ≤ 200) (k0 : 0 ≤ k) (k1 : k < (n : Int)) {j : Nat} (hj : j < n - 1) (hc : s.Cursor = pl n k j) (c : Int) : edit_fits.m KK s c = some .nil := by
  unfold edit_fits.m
  try simp only [letJ]
  rw [hc, open_j hs hn k0 k1 hj, Option.bind_some, cond_true, cond_false, of_j hs hn k0 k1 hj, Option.bind_some]
  simp only [cond_true, cond_false]
  split
  · rfl
  · split <;> rfl
theorem copy_T (hl : s.Cells.length ≤ 200) : grid_Copy.m s = some s := by
  unfold grid_Copy.m slices_Clone_api_Cell.m
  rw [appk (by simp; omega)]
  rfl
theorem modify_j (hs : s.Cells = cellsT n k w m) (hn : n ≤ 200) (k0 : 0 ≤ k) (k1 : k < (n : Int)) {j : Nat} (hj : j < n - 1) : edit_Modify.m KK s (pl n k j) = some ⟨s.Rows, s.Cols, cellsT n k w true, s.Cursor, s.Locked, s.Insert⟩ := by
  have hl := len_s hs
  unfold edit_Modify.m
  rw [copy_T (by omega), Option.bind_some, begin_j hs hn k0 k1 hj, Option.bind_some, if_pos k0, if_pos k0, if_pos (by rw [hl]; exact k1), cell_k hs k0 k1]
  simp only
  rw [hs, set_F k0]
def cu (n : Nat) (k : Int) (j : Nat) : Int := if j = n - 1 then pl n k 0 else pl n k j
theorem onward_j (hs : s.Cells = cellsT n k w m) (hn : n ≤ 200) (n2 : 2 ≤ n) (k0 : 0 ≤ k) (k1 : k < (n : Int)) {j : Nat} (hj : j < n - 1) (hc : s.Cursor = pl n k j) : edit_onward.m KK s = some (cu n k (j + 1)) := by
  have hl := len_s hs
  obtain ⟨p0, p1, p2, p3⟩ := pl_in k0 k1 hj
  unfold edit_onward.m cu
  rw [hc, on_next (by omega) p0 (by rw [hl]; exact p1), Option.bind_some, hl, nxt_pe k0 k1 hj]
  unfold pe
  by_cases h : j + 1 = n - 1
  · rw [if_pos h, if_pos h, if_pos k0, if_pos k1, cell_k hs k0 k1]
    simp only [cond_true, cond_false]
    rw [on_next (by omega) k0 (by rw [hl]; exact k1), hl, nxt_k k0 k1 n2]
    rfl
  · obtain ⟨q0, q1, q2, q3⟩ := pl_in k0 k1 (show j + 1 < n - 1 by omega)
    rw [if_neg h, if_neg h, if_pos q0, if_pos q1, cell_j hs k0 k1 (by omega)]
    rfl
theorem type_T (hs : s.Cells = cellsT n k w m) (hn : n ≤ 200) (n2 : 2 ≤ n) (k0 : 0 ≤ k) (k1 : k < (n : Int)) (hw : w.length < n - 1) (hc : s.Cursor = pl n k w.length) (hL : s.Locked = false) (hI : s.Insert = false) {c : Int} (c0 : c ≠ 0) (cc : chr c = true) :
    edit_Type.m KK s c = some (⟨s.Rows, s.Cols, cellsT n k (w ++ [c]) true, cu n k (w.length + 1), false, false⟩, .nil) := by
  obtain ⟨p0, p1, p2, p3⟩ := pl_in k0 k1 hw
  unfold edit_Type.m
  simp only [letJ, if_neg c0, char_eq, cc, Option.bind_some, cond_true, cond_false, hL, hI, fits_j hs hn k0 k1 hw hc, if_true, hc, modify_j hs hn k0 k1 hw]
  rw [if_pos p0, if_pos (by rw [len_T]; exact p1), set_L k0 k1 hw, onward_j (s := ⟨s.Rows, s.Cols, cellsT n k (w ++ [c]) true, pl n k w.length, false, false⟩) (w := w ++ [c]) (m := true) (j := w.length) rfl hn n2 k0 k1 hw rfl]
  rfl
theorem key_T (hs : s.Cells = cellsT n k w m) (hn : n ≤ 200) (n2 : 2 ≤ n) (k0 : 0 ≤ k) (k1 : k < (n : Int)) (hw : w.length < n - 1) (hc : s.Cursor = pl n k w.length) (hL : s.Locked = false) (hI : s.Insert = false) {c : Int} (c0 : c ≠ 0) (cc : chr c = true) :
    keys_Do.m KK s ⟨1, c⟩ = some (⟨s.Rows, s.Cols, cellsT n k (w ++ [c]) true, cu n k (w.length + 1), false, false⟩, false, .nil) := by
  unfold keys_Do.m keys_plain.m
  try simp only [letJ]
  simp only [show (1 : Int) = 17 ↔ False from by decide, show (1 : Int) = 11 ↔ False from by decide, if_false, if_true, cond_false, cond_true, show move_Moves.m 1 = some false from rfl, show wipe_Wipes.m 1 = some false from rfl, Option.bind_some, type_T hs hn n2 k0 k1 hw hc hL hI c0 cc]
theorem enter_T (hl : s.Cells.length ≤ 200) (hL : s.Locked = false) : keys_Do.m KK s ⟨17, 125⟩ = some (⟨s.Rows, s.Cols, s.Cells, s.Cursor, true, false⟩, true, .nil) := by
  unfold keys_Do.m keys_asks.m
  simp only [letJ, if_true, cond_true, cond_false, show attr_Aid.m 125 = some true from rfl, Option.bind_some, hL, copy_T hl, show (125 : Int) = 109 ↔ False from by decide, if_false]
theorem ups_one {p : Int → Bool} {k : Int} : ∀ (m : Nat) (i : Int), (∀ x, i ≤ x → x < i + m → p x = (x == k)) → (ups m i).filter p = if i ≤ k ∧ k < i + m then [k] else []
  | 0, i, _ => by rw [ups, if_neg (by omega)]; rfl
  | m + 1, i, h => by
    rw [ups, List.filter_cons, ups_one m (i + 1) (fun x a b => h x (by omega) (by omega)), h i (by omega) (by omega)]
    by_cases e : i = k
    · subst e; rw [if_pos (by simp), if_neg (by omega), if_pos (by omega)]
    · rw [if_neg (by simpa using e)]
      by_cases q : i + 1 ≤ k ∧ k < i + 1 + m
      · rw [if_pos q, if_pos (by omega)]
      · rw [if_neg q, if_neg (by omega)]
theorem field_T (hs : s.Cells = cellsT n k w m) {x : Int} (h0 : 0 ≤ x) (h1 : x < (n : Int)) : isF s x = (x == k) := by
  unfold isF
  rw [hs, at_T h0 h1]
  unfold cellT
  by_cases e : x = k
  · rw [if_pos e]; simpa using e
  · rw [if_neg e]; simpa using e
theorem begs_T (hs : s.Cells = cellsT n k w m) (k0 : 0 ≤ k) (k1 : k < (n : Int)) : begs s = [k] := by
  unfold begs
  rw [len_s hs, ups_one n 0 (fun x a b => field_T hs a (by omega)), if_pos (by omega)]
theorem fmt_T (hs : s.Cells = cellsT n k w m) (k0 : 0 ≤ k) (k1 : k < (n : Int)) : fmt s = true := by
  unfold fmt anyF
  rw [len_s hs, List.any_eq_true]
  exact ⟨k, ups_mem n 0 k k0 (by omega), by rw [field_T hs k0 k1]; simp⟩
theorem letters_T (hs : s.Cells = cellsT n k w m) (k0 : 0 ≤ k) (k1 : k < (n : Int)) (hw : w.length ≤ n - 1) (h0 : ∀ x ∈ w, x ≠ 0) : ∀ (d t q : Nat), t + d = n - 1 → d < q → ltrS s ((ring (nxt n) q (pe n k t)).takeWhile (isC s)) = w.drop t := by
  intro d
  induction d with
  | zero =>
    intro t q ht hq
    obtain ⟨q, rfl⟩ : ∃ q', q = q' + 1 := ⟨q - 1, by omega⟩
    rw [ring, show pe n k t = k from if_pos (by omega), List.takeWhile_cons, show isC s k = false by unfold isC; rw [cell_k hs k0 k1]; rfl, List.drop_eq_nil_of_le (by omega)]
    rfl
  | succ d ih =>
    intro t q ht hq
    obtain ⟨q, rfl⟩ : ∃ q', q = q' + 1 := ⟨q - 1, by omega⟩
    have hj : t < n - 1 := by omega
    have hc := cell_j hs k0 k1 hj
    rw [ring, show pe n k t = pl n k t from if_neg (by omega), nxt_pe k0 k1 hj, List.takeWhile_cons, show isC s (pl n k t) = true by unfold isC; rw [hc]; rfl, if_pos rfl, ltrS_cons, hc, ih (t + 1) q (by omega) (by omega)]
    simp only
    by_cases e : t < w.length
    · have hg : w.getD t 0 = w[t] := by rw [List.getD_eq_getElem?_getD, List.getElem?_eq_getElem e]; rfl
      rw [hg, if_neg (h0 _ (List.getElem_mem e)), List.drop_eq_getElem_cons e]
    · rw [if_pos (by rw [List.getD_eq_getElem?_getD, List.getElem?_eq_none (by omega)]; rfl), List.drop_eq_nil_of_le (by omega), List.drop_eq_nil_of_le (by omega)]
theorem ents_T (hs : s.Cells = cellsT n k w m) (n2 : 2 ≤ n) (k0 : 0 ≤ k) (k1 : k < (n : Int)) (hw : w.length ≤ n - 1) (h0 : ∀ x ∈ w, x ≠ 0) : ents s = bif m then [⟨pl n k 0, w⟩] else [] := by
  unfold ents
  rw [begs_T hs k0 k1, List.filter_cons]
  have hM : isM s k = m := by unfold isM; rw [cell_k hs k0 k1]
  rw [hM]
  cases m with
  | false => rfl
  | true =>
    rw [if_pos rfl]
    simp only [List.filter_nil, List.map_cons, List.map_nil, cond_true]
    unfold ent cellsOf
    rw [len_s hs, nxt_k k0 k1 n2, show pl n k 0 = pe n k 0 from (if_neg (by omega)).symm, letters_T hs k0 k1 hw h0 (n - 1) 0 n (by omega) (by omega), List.drop_zero]
theorem modified_T (hs : s.Cells = cellsT n k w m) (hn : n ≤ 200) (n2 : 2 ≤ n) (k0 : 0 ≤ k) (k1 : k < (n : Int)) (hw : w.length ≤ n - 1) (h0 : ∀ x ∈ w, x ≠ 0) :
    read_Modified.m KK s 125 = some (⟨125, s.Cursor, bif m then [⟨pl n k 0, w⟩] else []⟩, .nil) := by
  have hl : s.Cells.length ≤ 200 := by rw [len_s hs]; omega
  have hb : (begs s).length ≤ 200 := Nat.le_trans (begs_len s) hl
  unfold read_Modified.m
  simp only [letJ, show attr_Aid.m 125 = some true from rfl, Option.bind_some, cond_true, cond_false, show attr_Bare.m 125 = some false from rfl, formatted_prog hl, fmt_T hs k0 k1, begins_eq hl]
  rw [fields_prog hl KK [] 0 (by omega) (by omega) (by unfold KK; omega) (by simp), Option.bind_some, ← ents_T hs n2 k0 k1 hw h0]
  rfl
end
theorem sent_T {n : Int} (n1 : 1 ≤ n) (n2 : n ≤ 200) {c a : Int} (c0 : 0 ≤ c) (c1 : c < n) (a0 : 0 ≤ a) (a1 : a < n) {w : List Int} (hw : w.length ≤ 200) (hl : w.all ltr = true) (b : Bool) :
    (writeI ⟨125, c, bif b then [⟨a, w⟩] else []⟩ n).2 = .nil := by
  have e : errI ⟨125, c, bif b then [⟨a, w⟩] else []⟩ n = .nil := by
    unfold errI
    simp only
    rw [if_pos (by decide), if_neg (by decide), if_neg (by omega)]
    cases b with
    | false => rfl
    | true =>
      simp only [cond_true]
      unfold fW
      rw [if_neg (by rw [right_wrongF (⟨a0, a1, hl⟩ : RightF ⟨a, w⟩ n)]; simp)]
      rfl
  unfold writeI
  rw [if_pos e, if_neg (show ¬ bareC 125 = true by decide), if_neg]
  have : (flatF (bif b then [(⟨a, w⟩ : api_Entry)] else []) n).length ≤ 1000 := by
    cases b with
    | false => simp [flatF]
    | true =>
      have q := putF_len (⟨a, w⟩ : api_Entry) n
      rw [cond_true, flatF_cons, List.length_append, q, if_neg (show ¬ (⟨a, w⟩ : api_Entry).Addr = -1 by simp only; omega)]
      simp only [flatF, List.map_nil, List.flatten_nil, List.length_nil]
      omega
  simp only
  omega
end Go.Proofs.YtfkdbplnjlkcdaaGreatDoor.Sx
