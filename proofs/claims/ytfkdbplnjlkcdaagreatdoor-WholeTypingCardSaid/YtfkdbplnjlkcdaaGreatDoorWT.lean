import Derived.Test.YtfkdbplnjlkcdaaGreatDoorTY
import Derived.Test.YtfkdbplnjlkcdaaGreatDoorTA
namespace Go.Proofs.YtfkdbplnjlkcdaaGreatDoor.Sx
open Go
set_option maxRecDepth 100000
theorem letter_T {b : Int} (h0 : 0 ≤ b) (h1 : b ≤ 255) : shutterref09_Letter.m b = some (ltr b) := by
  unfold shutterref09_Letter.m shutterref05_Char.m ltr chr
  by_cases e : b = 0
  · subst e; rfl
  · rw [if_neg e, if_neg e]
    by_cases e1 : b = 28
    · subst e1; rfl
    · rw [if_neg e1]
      by_cases e2 : b = 30
      · subst e2; rfl
      · rw [if_neg e2]
        by_cases e3 : b ≥ 64
        · rw [if_pos e3, Option.bind_some]
          congr 1
          rw [Bool.eq_iff_iff]
          simp
          omega
        · rw [if_neg e3, Option.bind_some]
          congr 1
          rw [Bool.eq_iff_iff]
          simp
          omega
theorem same_l {a : List Int} (ha : a.length ≤ 100000) : ∀ (k : Nat) (i : Int), 0 ≤ i → i ≤ (a.length : Int) → (a.length : Int) - i < k → shutterref01_Same.l1.m KK a a k i = some () := by
  intro k
  induction k with
  | zero => intro i h0 h1 h2; omega
  | succ k ih =>
    intro i h0 h1 h2
    rw [shutterref01_Same.l1.m]
    by_cases h3 : i < (a.length : Int)
    · rw [if_pos h3, if_pos h0, if_pos h3, if_pos rfl, w64_id (n := i + 1) (by omega) (by omega)]
      exact ih (i + 1) (by omega) (by omega) (by omega)
    · rw [if_neg h3]
theorem same_T {a : List Int} (ha : a.length ≤ 100000) : shutterref01_Same.m KK a a = some true := by
  unfold shutterref01_Same.m
  rw [if_pos rfl, same_l ha KK 0 (by omega) (by omega) (by unfold KK; omega)]
  rfl
theorem init_T {n : Nat} {k : Int} (k0 : 0 ≤ k) : (List.replicate n (⟨false, ⟨false, false, 0, false⟩, 0⟩ : api_Cell)).set k.toNat ⟨true, ⟨false, false, 0, false⟩, 0⟩ = cellsT n k [] false := by
  have e : List.replicate n (⟨false, ⟨false, false, 0, false⟩, 0⟩ : api_Cell) = (List.range n).map fun _ => ⟨false, ⟨false, false, 0, false⟩, 0⟩ := by
    apply List.ext_getElem
    · simp
    · intro i h1 h2; simp
  rw [e]
  unfold cellsT
  refine set_map fun i _ => ?_
  unfold cellT
  by_cases q : (i : Int) = k
  · rw [if_pos q, if_pos (by omega)]
  · rw [if_neg q, if_neg (by omega)]
    simp
theorem new_T {r c : Int} (r0 : 1 ≤ r) (r1 : r ≤ 6) (c0 : 2 ≤ c) (c1 : c ≤ 13) : ∃ n : Nat, 2 ≤ n ∧ n ≤ 78 ∧ grid_New.m r c = some (⟨r, c, List.replicate n ⟨false, ⟨false, false, 0, false⟩, 0⟩, 0, false, false⟩, .nil) := by
  have hr : r = 1 ∨ r = 2 ∨ r = 3 ∨ r = 4 ∨ r = 5 ∨ r = 6 := by omega
  have key : ∀ q : Int, 13 ≤ w64 (Int.tdiv 16383 q) → 1 ≤ q → q ≤ 6 → 2 ≤ q * c → q * c ≤ 78 → ∃ n : Nat, 2 ≤ n ∧ n ≤ 78 ∧ grid_New.m q c = some (⟨q, c, List.replicate n ⟨false, ⟨false, false, 0, false⟩, 0⟩, 0, false, false⟩, .nil) := by
    intro q hq q0 q1 p0 p1
    refine ⟨(q * c).toNat, by omega, by omega, ?_⟩
    unfold grid_New.m mk
    rw [if_neg (by omega), if_neg (by omega), if_neg (by omega), if_pos (by omega), if_neg (by omega), w64_id (by omega) (by omega), if_pos (by unfold Lim; omega)]
    rfl
  rcases hr with rfl | rfl | rfl | rfl | rfl | rfl <;> exact key _ (by decide) (by omega) (by omega) (by omega) (by omega)
theorem cell_T : grid_cell.m KK ⟨true, ⟨false, false, 0, false⟩, 0⟩ = some true := by kernel_rfl
theorem put_T {r c k : Int} {n : Nat} (hn : n ≤ 200) (k0 : 0 ≤ k) (k1 : k < (n : Int)) : grid_Put.m KK ⟨r, c, List.replicate n ⟨false, ⟨false, false, 0, false⟩, 0⟩, 0, false, false⟩ k ⟨true, ⟨false, false, 0, false⟩, 0⟩ = some (⟨r, c, cellsT n k [] false, 0, false, false⟩, .nil) := by
  unfold grid_Put.m
  simp only [List.length_replicate]
  rw [if_neg (by omega), if_neg (by omega), cell_T, Option.bind_some, cond_true, copy_T (by simp; omega), Option.bind_some, if_pos k0, if_pos (by simp; omega)]
  simp only
  rw [init_T k0]
theorem typing_T {n : Nat} {k r c : Int} {x3 : List Int} {t : api_Screen × GoErr} (hn : n ≤ 200) (n2 : 2 ≤ n) (k0 : 0 ≤ k) (k1 : k < (n : Int)) (ht : t.1.Cells.length = n) (hx : x3.length ≤ 100) (w3 : ∀ y ∈ x3, Wf .u8 y) :
    ∀ (q : Nat) (i : Int) (w : List Int) (m : Bool), 0 ≤ i → i ≤ (x3.length : Int) → (x3.length : Int) - i < q → w.length ≤ n - 1 → (∀ y ∈ w, Wf .u8 y ∧ ltr y = true) → m = !w.isEmpty →
    ∃ (w' : List Int) (m' : Bool), shuttertop_WholeTyping.l1.m KK x3 t q w i r c (cellsT n k w m) (cu n k w.length) false false = some (w', r, c, cellsT n k w' m', cu n k w'.length, false, false) ∧ w'.length ≤ n - 1 ∧ (∀ y ∈ w', Wf .u8 y ∧ ltr y = true) ∧ m' = !w'.isEmpty := by
  intro q
  induction q with
  | zero => intro i w m _ _ h; omega
  | succ q ih =>
    intro i w m i0 i1 hq hw hl hm
    rw [shuttertop_WholeTyping.l1.m]
    simp only [letJ, ht]
    rw [w64_id (n := (n : Int) - 1) (by omega) (by omega)]
    by_cases h3 : i < (x3.length : Int)
    · rw [if_pos h3]
      by_cases h4 : (w.length : Int) < (n : Int) - 1
      · have hu := w3 _ (at_mem i0 h3)
        have hb := b_u8 hu
        rw [if_pos h4, if_pos i0, letter_T hb.1 hb.2, Option.bind_some]
        cases hL : ltr (at_ x3 i) with
        | false =>
          rw [cond_false, w64_id (n := i + 1) (by omega) (by omega)]
          exact ih (i + 1) w m (by omega) (by omega) (by omega) hw hl hm
        | true =>
          have hL' := hL
          unfold ltr at hL'
          rw [Bool.and_eq_true] at hL'
          have c0 : at_ x3 i ≠ 0 := by simpa using hL'.1
          have hc : cu n k w.length = pl n k w.length := if_neg (by omega)
          rw [cond_true, key_T (s := ⟨r, c, cellsT n k w m, cu n k w.length, false, false⟩) (w := w) (m := m) rfl hn n2 k0 k1 (by omega) hc rfl rfl c0 hL'.2, Option.bind_some]
          simp only [cond_false, if_true]
          rw [app_ok (by simp; omega), Option.bind_some, w64_id (n := i + 1) (by omega) (by omega)]
          have hlen : (w ++ [at_ x3 i]).length = w.length + 1 := by simp
          rw [← hlen]
          refine ih (i + 1) (w ++ [at_ x3 i]) true (by omega) (by omega) (by omega) (by omega) ?_ (by simp)
          intro y hy
          rcases List.mem_append.1 hy with hy | hy
          · exact hl y hy
          · obtain rfl := List.mem_singleton.1 hy; exact ⟨hu, hL⟩
      · rw [if_neg h4]
        exact ⟨w, m, rfl, hw, hl, hm⟩
    · rw [if_neg h3]
      exact ⟨w, m, rfl, hw, hl, hm⟩
theorem WholeTyping_true (x0 x1 x2 : Int) (x3 : List Int) (w0 : Wf .u8 x0) (w1 : Wf .u8 x1) (w2 : Wf .u16 x2) (w3 : ∀ y ∈ x3, Wf .u8 y) (_ : x3.length ≤ maxLen) : shuttertop_WholeTyping.m KK x0 x1 x2 x3 = some true := by
  have b0 := b_u8 w0
  have b1 := b_u8 w1
  have b2 := b_u16 w2
  unfold shuttertop_WholeTyping.m
  rw [awakeTop, Option.bind_some, cond_true]
  by_cases hl : (x3.length : Int) > 100
  · rw [if_pos hl]; rfl
  rw [if_neg hl]
  have e0 : w64 (1 + w64 (Int.tmod x0 6)) = 1 + x0 % 6 := by
    rw [Int.tmod_eq_emod_of_nonneg (by omega), w64_id (n := x0 % 6) (by omega) (by omega), w64_id (by omega) (by omega)]
  have e1 : w64 (2 + w64 (Int.tmod x1 12)) = 2 + x1 % 12 := by
    rw [Int.tmod_eq_emod_of_nonneg (by omega), w64_id (n := x1 % 12) (by omega) (by omega), w64_id (by omega) (by omega)]
  rw [e0, e1]
  obtain ⟨n, n2, hn, eN⟩ := new_T (r := 1 + x0 % 6) (c := 2 + x1 % 12) (by omega) (by omega) (by omega) (by omega)
  rw [eN, Option.bind_some]
  generalize 1 + x0 % 6 = r
  generalize 2 + x1 % 12 = c
  simp only [if_true, List.length_replicate]
  rw [if_pos (by omega)]
  have e2 : Int.tmod (w64 x2) (n : Int) = x2 % (n : Int) := by
    rw [w64_id (n := x2) (by omega) (by omega), Int.tmod_eq_emod_of_nonneg (by omega)]
  rw [e2]
  have k0 : 0 ≤ x2 % (n : Int) := Int.emod_nonneg _ (by omega)
  have k1 : x2 % (n : Int) < (n : Int) := Int.emod_lt_of_pos _ (by omega)
  generalize x2 % (n : Int) = k at k0 k1
  have e3 : Int.tmod (w64 (k + 1)) (n : Int) = pl n k 0 := by
    rw [w64_id (n := k + 1) (by omega) (by omega)]
    unfold pl
    by_cases h : k + 1 + 0 < (n : Int)
    · rw [if_pos h, Int.tmod_eq_of_lt (by omega) (by omega)]; omega
    · rw [if_neg h, show k + 1 = (n : Int) by omega, Int.tmod_self]; omega
  rw [e3, put_T (by omega) k0 k1, Option.bind_some]
  simp only [letJ]
  have hcu : pl n k 0 = cu n k ([] : List Int).length := by
    unfold cu; rw [if_neg (by simp; omega)]; rfl
  have hK : (x3.length : Int) - 0 < (KK : Nat) := by unfold KK; omega
  obtain ⟨w, m, eL, hw, hT, hm⟩ := typing_T (r := r) (c := c) (t := (⟨r, c, List.replicate n ⟨false, ⟨false, false, 0, false⟩, 0⟩, 0, false, false⟩, .nil)) (by omega) n2 k0 k1 (by simp) (by omega) w3 KK 0 [] false (by omega) (by omega) hK (by simp) (by simp) (by simp)
  rw [← hcu] at eL
  rw [eL, Option.bind_some]
  simp only
  have hs : (⟨r, c, cellsT n k w m, cu n k w.length, false, false⟩ : api_Screen).Cells = cellsT n k w m := rfl
  rw [enter_T (by rw [hs, len_T]; omega) rfl, Option.bind_some]
  simp only [cond_true]
  have hw0 : ∀ x ∈ w, x ≠ 0 := fun x hx => by
    have q := (hT x hx).2
    unfold ltr at q
    rw [Bool.and_eq_true] at q
    simpa using q.1
  rw [modified_T (n := n) (k := k) (w := w) (m := m) rfl (by omega) n2 k0 k1 hw hw0, Option.bind_some]
  simp only [if_true]
  have n1 : 1 ≤ (n : Int) := by omega
  have n16 : (n : Int) ≤ 16383 := by omega
  obtain ⟨p0, p1, _, _⟩ := pl_in (n := n) k0 k1 (j := 0) (by omega)
  have hp : pl n k ((0 : Nat) : Int) = pl n k 0 := rfl
  rw [hp] at p0 p1
  have hcr : 0 ≤ cu n k w.length ∧ cu n k w.length < (n : Int) := by
    unfold cu
    by_cases h : w.length = n - 1
    · rw [if_pos h]; exact ⟨p0, p1⟩
    · rw [if_neg h]
      obtain ⟨q0, q1, _, _⟩ := pl_in (n := n) k0 k1 (j := w.length) (by omega)
      exact ⟨q0, q1⟩
  have hall : w.all ltr = true := List.all_eq_true.2 fun x hx => (hT x hx).2
  have hsent := sent_T (n := (n : Int)) n1 (by omega) hcr.1 hcr.2 p0 p1 (w := w) (by omega) hall m
  have hfl : (flatF (bif m then [(⟨pl n k 0, w⟩ : api_Entry)] else []) (n : Int)).length ≤ 800000 := by
    cases m with
    | false => simp [flatF]
    | true =>
      have q := putF_len (⟨pl n k 0, w⟩ : api_Entry) (n : Int)
      rw [cond_true, flatF_cons, List.length_append, q]
      simp only [flatF, List.map_nil, List.flatten_nil, List.length_nil]
      split <;> omega
  have hf1 : (bif m then [(⟨pl n k 0, w⟩ : api_Entry)] else []).length ≤ 100000 := by cases m <;> simp
  have hf2 : ∀ f ∈ (bif m then [(⟨pl n k 0, w⟩ : api_Entry)] else []), f.Text.length ≤ 100000 := by
    cases m with
    | false => simp
    | true => intro f hf; obtain rfl := List.mem_singleton.1 hf; simp only; omega
  have hf3 : ∀ f ∈ (bif m then [(⟨pl n k 0, w⟩ : api_Entry)] else []), ∀ y ∈ f.Text, Wf .u8 y := by
    cases m with
    | false => simp
    | true => intro f hf; obtain rfl := List.mem_singleton.1 hf; exact fun y hy => (hT y hy).1
  rw [write9_eq (o := ⟨125, cu n k w.length, bif m then [⟨pl n k 0, w⟩] else []⟩) n1 n16 hf1 hf2 hfl, Option.bind_some]
  have hu := writeI_u8 (o := ⟨125, cu n k w.length, bif m then [⟨pl n k 0, w⟩] else []⟩) n1 n16 (show Wf .u8 (125 : Int) from wf8i (by decide) (by decide)) hf3 hsent
  have hln := writeI_len (o := ⟨125, cu n k w.length, bif m then [⟨pl n k 0, w⟩] else []⟩) (n := (n : Int))
  rw [read9_eq hu n1 n16 (by omega), Option.bind_some, readI_write n1 n16 hsent, hsent]
  simp only [if_true]
  cases w with
  | nil => subst hm; rfl
  | cons y w =>
    have hm' : m = true := hm
    subst hm'
    rw [if_neg (show ¬ ((y :: w).length : Int) = 0 by simp only [List.length_cons]; omega)]
    simp only [cond_true, List.length_singleton]
    have ha : at_ [(⟨pl n k 0, y :: w⟩ : api_Entry)] 0 = ⟨pl n k 0, y :: w⟩ := rfl
    rw [if_pos (show ((1 : Nat) : Int) = 1 from rfl), if_pos (show (0 : Int) < ((1 : Nat) : Int) by decide), ha, if_pos rfl, same_T (show (y :: w).length ≤ 100000 by omega)]
    rfl
end Go.Proofs.YtfkdbplnjlkcdaaGreatDoor.Sx
