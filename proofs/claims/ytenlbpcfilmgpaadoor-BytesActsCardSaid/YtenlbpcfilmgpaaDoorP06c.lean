/- The plain part of the laws of package 06: BytesActs. -/
import Derived.Test.YtenlbpcfilmgpaaDoorP06b
namespace Go.Proofs.YtenlbpcfilmgpaaDoor.Sx
open Go

def ok_shutterlaw06_Act (x : shutterlaw06_Act) : Prop := Wf .i64 x.Do ∧ Wf .i64 x.N
theorem len2 {α : Type} {l : List α} (h : l.length = 2) : ∃ a b, l = [a, b] := by
  match l, h with
  | [a, b], _ => exact ⟨a, b, rfl⟩
theorem elt_shutterlaw06_Act : Elt Tryd.prog t_shutterlaw06_Act 51 ok_shutterlaw06_Act where
  cells := by kernel_rfl
  pos := by decide
  open_ := by
    intro H enc w base sp held fuel cs x h
    obtain ⟨xs, n, _, _, hl, hx, hel⟩ := DataW.trod_struct Tryd.underlying51 h
    have hc : Tryd.prog.cellsOf 51 = 2 := by kernel_rfl
    have hl2 : cs.length = 2 := hl.trans hc
    have hx : xs.length = 2 := hx
    have h0 := hel 0 _ rfl
    have h1 := hel 1 _ rfl
    rw [List.getElem?_eq_getElem (by omega)] at h0 h1
    obtain ⟨a, ea, _, wa⟩ := DataW.trod_int (k := .i64) (by kernel_rfl) h0
    obtain ⟨b, eb, _, wb⟩ := DataW.trod_int (k := .i64) (by kernel_rfl) h1
    obtain ⟨u, v, rfl⟩ := len2 hl2
    have ea' : [u] = [Value.int .i64 a] := by refine Eq.trans ?_ ea; kernel_rfl
    have eb' : [v] = [Value.int .i64 b] := by refine Eq.trans ?_ eb; kernel_rfl
    obtain rfl := List.head_eq_of_cons_eq ea'
    obtain rfl := List.head_eq_of_cons_eq eb'
    exact ⟨⟨a, b⟩, rfl, wa, wb⟩

theorem letJ_ex {α β : Type} {j : α} {f : α → β} {G : β → Prop} (P : α → Prop) (h1 : P j) (h2 : ∀ j, P j → G (f j)) : G (letJ j f) := h2 j h1

def Inv (e : GoErr) (code wh : Int) : Prop := (e = .nil ∧ code = 0 ∧ wh = -1) ∨ (∃ a k, e = .spot a k ∧ codeOf k = code ∧ code ≠ 0 ∧ wh = a)
theorem inv_code {e : GoErr} {code wh : Int} (h : Inv e code wh) : codeOf e = code ∧ whereOf e = wh := by
  rcases h with ⟨rfl, rfl, rfl⟩ | ⟨a, k, rfl, hk, _, rfl⟩
  · exact ⟨rfl, rfl⟩
  · exact ⟨hk, rfl⟩

theorem rd6_err (a b : Int) : (rd6 a b).2 = .nil ∨ ∃ x, (rd6 a b).2 = .spot x (.no 3) := by
  unfold rd6
  split
  · split
    · exact .inl rfl
    · exact .inr ⟨_, rfl⟩
  · exact .inr ⟨_, rfl⟩
theorem getOf_code {l : List Int} {n : Int} (h : (getOf l n).2 ≠ .nil) : codeOf (getOf l n).2 ≠ 0 := by
  unfold getOf at h ⊢
  split
  · split
    · decide
    · split
      · split
        · simp [codeOf, code?]
        · split
          · decide
          · simp_all
      · split
        · split
          · decide
          · simp_all
        · rename_i hn
          rcases rd6_err (at_ l 0) (at_ l 1) with e | ⟨x, e⟩
          · exact absurd e hn
          · simp only [e]; simp [codeOf, code?]
  · decide

theorem l2_eq {b : List Int} (w : ∀ y ∈ b, Wf .u8 y) (hb : b.length ≤ 100000) {p : Int} (h0 : 0 ≤ p) : ∀ (k : Nat) (i : Int), 0 ≤ i → p + i ≤ (b.length : Int) → (b.length : Int) - (p + i) < k →
    shutterlaw06_BytesActs.l2.m KK b p 0 k i = some (i + cnt (b.drop (p + i).toNat)) := by
  intro k
  induction k with
  | zero => intro i h1 h2 h3; omega
  | succ k ih =>
    intro i h1 h2 h3
    rw [shutterlaw06_BytesActs.l2.m, if_pos rfl, w64_id (n := p + i) (by omega) (by omega)]
    by_cases h4 : p + i < (b.length : Int)
    · have hu := at_u8 w (i := p + i) (by omega) h4
      rw [if_pos h4, if_pos (by omega), refchar_eq hu.2, Option.bind_some, drop_at (by omega) h4]
      unfold cnt
      rw [List.takeWhile_cons]
      cases hc : chr (at_ b (p + i)) with
      | false => simp
      | true =>
        simp only [cond_true, if_true, List.length_cons]
        rw [w64_id (n := i + 1) (by omega) (by omega), ih (i + 1) (by omega) (by omega) (by omega)]
        unfold cnt
        rw [show p + (i + 1) = p + i + 1 by omega]
        congr 1; omega
    · rw [if_neg h4, List.drop_eq_nil_of_le (by omega)]
      simp [cnt]

theorem sub1 {b : List Int} {p : Int} (h0 : 0 ≤ p) (h1 : p < (b.length : Int)) : sub b p (p + 1) = [at_ b p] := by
  unfold sub
  rw [drop_at h0 h1, show (p + 1).toNat - p.toNat = 1 by omega]
  rfl
theorem sub0 {b : List Int} {p : Int} : sub b p p = [] := by unfold sub; rw [Nat.sub_self]; rfl

theorem actsLoop {b : List Int} {size : Int} {acts : List shutterlaw06_Act} (w : ∀ y ∈ b, Wf .u8 y) (hb : b.length ≤ 100000) (ha : acts.length ≤ 100000) : ∀ (k : Nat) (i p code wh : Int) (e : GoErr),
    0 ≤ i → i ≤ (acts.length : Int) → (acts.length : Int) - i < k → CurOk ⟨b, p, e⟩ → Inv e code wh → ∃ q, shutterlaw06_BytesActs.l1.m KK b size acts k p code wh i b p e = some (.inr q) := by
  intro k
  induction k with
  | zero => intro i p code wh e h0 h1 h2; omega
  | succ k ih =>
    intro i p code wh e h0 h1 h2 ok inv
    rw [shutterlaw06_BytesActs.l1.m]
    by_cases h3 : i < (acts.length : Int)
    · rw [if_pos h3]
      refine letJ_ex (G := fun (x : Option (Bool ⊕ (List Int × Int × GoErr))) => ∃ q, x = some (Sum.inr q)) (fun (j : Int → Int → Int → List Int → Int → GoErr → Option (Bool ⊕ (List Int × Int × GoErr))) => ∀ (p code wh : Int) (e : GoErr), CurOk ⟨b, p, e⟩ → Inv e code wh → ∃ q, j p code wh b p e = some (Sum.inr q)) ?_ ?_
      · intro p' code' wh' e' ok' inv'
        obtain ⟨hc, hw⟩ := inv_code inv'
        have g0 := ok'.h0; have g1 := ok'.h1
        simp only at g0 g1
        simp only [atc_eq, Option.bind_some, if_true, left_eq ok', err_eq, api_Code.m, api_Where.m, hc, hw]
        rw [w64_id (n := (b.length : Int) - p') (by omega) (by omega), if_pos rfl, w64_id (n := i + 1) (by omega) (by omega)]
        exact ih (i + 1) p' code' wh' e' (by omega) (by omega) (by omega) ok' inv'
      · intro j hj
        rw [if_pos h0]
        generalize at_ acts i = act
        have g0 := ok.h0; have g1 := ok.h1
        simp only at g0 g1
        have hleft : w64 ((b.length : Int) - p) = (b.length : Int) - p := w64_id (by omega) (by omega)
        rcases inv with ⟨rfl, rfl, rfl⟩ | ⟨a, c, rfl, hk, hne, rfl⟩
        · -- no error so far
          have bad : ∀ n : Int, (n < 0 ∨ n > (b.length : Int) - p) → takeC ⟨b, p, .nil⟩ n = ([], ⟨b, p, .spot p (.no 2)⟩) := by
            intro n hn
            unfold takeC failC
            rw [if_pos hn, if_pos (by simp)]
          have good : ∀ n : Int, ¬ (n < 0 ∨ n > (b.length : Int) - p) → takeC ⟨b, p, .nil⟩ n = (sub b p (p + n), ⟨b, p + n, .nil⟩) := by
            intro n hn
            unfold takeC
            rw [if_neg hn, if_pos rfl]
          have jbad := hj p 2 p (.spot p (.no 2)) ⟨ok.h0, ok.h1, ok.h2, ok.u8⟩ (.inr ⟨p, .no 2, rfl, rfl, by decide, rfl⟩)
          by_cases d0 : act.Do = 0
          · simp only [letJ, d0, if_true, cond_true, if_false, show ¬ (0 : Int) = 1 from by decide, byte_eq ok, Option.bind_some, hleft, show ¬ (1 : Int) < 0 from by decide]
            by_cases hr : (1 : Int) > (b.length : Int) - p
            · simp only [hr, if_true, bad 1 (.inr hr), List.length_nil, show ¬ (2 : Int) = 0 from by decide, if_false, cond_true, List.length_cons, show (0 : Int) < ((0 + 1 : Nat) : Int) from by decide, show at_ [(0 : Int)] 0 = 0 from rfl]
              exact jbad
            · simp only [hr, if_false, good 1 (by omega), if_true, cond_false, g0, w64_id (n := p + 1) (by omega) (by omega), if_pos (show p ≤ p + 1 by omega), if_pos (show p + 1 ≤ (b.length : Int) by omega), sub1 g0 (show p < (b.length : Int) by omega), List.length_cons, List.length_nil, show ¬ (0 + 1 : Nat) = 0 from by decide, show at_ [at_ b p] 0 = at_ b p from rfl, same_eq (a := [at_ b p]) (b := [at_ b p]) (by simp), beq_self_eq_true, Option.bind_some, cond_true]
              exact hj (p + 1) 0 (-1) .nil (cur_mv ok (by omega) (by omega) _) (.inl ⟨rfl, rfl, rfl⟩)
          · by_cases d1 : act.Do = 1
            · simp only [letJ, d1, if_true, cond_true, if_false, show ¬ (1 : Int) = 0 from by decide, take_eq ok, Option.bind_some, hleft]
              by_cases hr1 : act.N < 0
              · simp only [hr1, if_true, bad act.N (.inl hr1), List.length_nil, show ¬ (2 : Int) = 0 from by decide, if_false, cond_true, show ((0 : Nat) : Int) = 0 from rfl]
                exact jbad
              · by_cases hr2 : act.N > (b.length : Int) - p
                · simp only [hr1, hr2, if_true, if_false, bad act.N (.inr hr2), List.length_nil, show ¬ (2 : Int) = 0 from by decide, cond_true, show ((0 : Nat) : Int) = 0 from rfl]
                  exact jbad
                · simp only [hr1, hr2, if_false, good act.N (by omega), if_true, cond_false, g0, w64_id (n := p + act.N) (by omega) (by omega), if_pos (show p ≤ p + act.N by omega), if_pos (show p + act.N ≤ (b.length : Int) by omega), same_eq (a := sub b p (p + act.N)) (b := sub b p (p + act.N)) (Nat.le_trans sub_len hb), beq_self_eq_true, Option.bind_some, cond_true]
                  exact hj (p + act.N) 0 (-1) .nil (cur_mv ok (by omega) (by omega) _) (.inl ⟨rfl, rfl, rfl⟩)
            · by_cases d2 : act.Do = 2
              · simp only [letJ, d2, if_true, cond_true, cond_false, if_false, show ¬ (2 : Int) = 0 from by decide, show ¬ (2 : Int) = 1 from by decide, addr_eq ok, Option.bind_some, g0, g1, sub_end]
                rw [ref04 (fun y hy => w y (List.mem_of_mem_drop hy)), Option.bind_some]
                unfold addrC
                by_cases hr : (getOf (b.drop p.toNat) size).2 = .nil
                · have h2 := getOf_good hr
                  rw [List.length_drop] at h2
                  simp only [hr, if_true, show codeOf .nil = 0 from rfl, w64_id (n := p + 2) (by omega) (by omega)]
                  exact hj (p + 2) 0 (-1) .nil (cur_mv ok (by omega) (by omega) _) (.inl ⟨rfl, rfl, rfl⟩)
                · simp only [hr, if_true, if_false, getOf_code hr]
                  exact hj p _ p _ ⟨ok.h0, ok.h1, ok.h2, ok.u8⟩ (.inr ⟨p, _, rfl, rfl, getOf_code hr, rfl⟩)
              · by_cases d3 : act.Do = 3
                · have hc := cnt_le (b.drop p.toNat)
                  rw [List.length_drop] at hc
                  have hl2 := l2_eq w hb g0 KK 0 (Int.le_refl _) (by omega) (by unfold KK; omega)
                  rw [Int.add_zero, Int.zero_add] at hl2
                  simp only [letJ, d3, if_true, cond_true, cond_false, if_false, show ¬ (3 : Int) = 0 from by decide, show ¬ (3 : Int) = 1 from by decide, show ¬ (3 : Int) = 2 from by decide, chars_eq ok, Option.bind_some, hl2]
                  unfold charsC
                  simp only [if_true]
                  generalize cnt (b.drop p.toNat) = m at *
                  simp only [g0, if_true, w64_id (n := p + (m : Int)) (by omega) (by omega), if_pos (show p ≤ p + (m : Int) by omega), if_pos (show p + (m : Int) ≤ (b.length : Int) by omega), same_eq (a := sub b p (p + (m : Int))) (b := sub b p (p + (m : Int))) (Nat.le_trans sub_len hb), beq_self_eq_true, Option.bind_some, cond_true]
                  exact hj (p + (m : Int)) 0 (-1) .nil (cur_mv ok (by omega) (by omega) _) (.inl ⟨rfl, rfl, rfl⟩)
                · by_cases d4 : act.Do = 4
                  · simp only [letJ, d4, if_true, cond_true, cond_false, if_false, show ¬ (4 : Int) = 0 from by decide, show ¬ (4 : Int) = 1 from by decide, show ¬ (4 : Int) = 2 from by decide, show ¬ (4 : Int) = 3 from by decide, fail_eq, Option.bind_some]
                    unfold failC
                    rw [if_pos (by simp)]
                    exact hj p 5 p _ ⟨ok.h0, ok.h1, ok.h2, ok.u8⟩ (.inr ⟨p, .no 5, rfl, rfl, by decide, rfl⟩)
                  · simp only [letJ, d0, d1, d2, d3, d4, if_true, cond_true, cond_false, if_false, peek_eq ok, Option.bind_some, true_and]
                    have jok := hj p 0 (-1) .nil ok (.inl ⟨rfl, rfl, rfl⟩)
                    by_cases hr : p < (b.length : Int)
                    · simp only [hr, if_true, decide_true, cond_true, bne_self_eq_false, cond_false, g0]
                      exact jok
                    · simp only [hr, if_false, decide_false, cond_false, bne_self_eq_false, if_true]
                      exact jok
        · -- an error stays
          have hset : (⟨b, p, .spot wh c⟩ : bytes_Cursor).err' ≠ .nil := by simp
          have jok := hj p code wh (.spot wh c) ok (.inr ⟨wh, c, rfl, hk, hne, rfl⟩)
          by_cases d0 : act.Do = 0
          · simp only [letJ, d0, if_true, cond_true, if_false, show ¬ (0 : Int) = 1 from by decide, byte_eq ok, takeC_set hset, Option.bind_some, hne, List.length_nil, List.length_cons, show (0 : Int) < ((0 + 1 : Nat) : Int) from by decide, show at_ [(0 : Int)] 0 = 0 from rfl]
            exact jok
          · by_cases d1 : act.Do = 1
            · simp only [letJ, d1, if_true, cond_true, if_false, show ¬ (1 : Int) = 0 from by decide, take_eq ok, takeC_set hset, Option.bind_some, hne, List.length_nil, show ((0 : Nat) : Int) = 0 from rfl]
              exact jok
            · by_cases d2 : act.Do = 2
              · have ea : addrC ⟨b, p, .spot wh c⟩ size = (0, ⟨b, p, .spot wh c⟩) := by unfold addrC; rw [if_neg hset]
                simp only [letJ, d2, if_true, cond_true, cond_false, if_false, show ¬ (2 : Int) = 0 from by decide, show ¬ (2 : Int) = 1 from by decide, addr_eq ok, ea, Option.bind_some, hne]
                exact jok
              · by_cases d3 : act.Do = 3
                · have ec : charsC ⟨b, p, .spot wh c⟩ = ([], ⟨b, p, .spot wh c⟩) := by unfold charsC; rw [if_neg hset]
                  have hl2 : shutterlaw06_BytesActs.l2.m KK b p code KK 0 = some 0 := by
                    rw [show KK = 1048575 + 1 from rfl, shutterlaw06_BytesActs.l2.m, if_neg hne]
                  simp only [letJ, d3, if_true, cond_true, cond_false, if_false, show ¬ (3 : Int) = 0 from by decide, show ¬ (3 : Int) = 1 from by decide, show ¬ (3 : Int) = 2 from by decide, chars_eq ok, ec, Option.bind_some, hl2, Int.add_zero, w64_id (n := p) (by omega) (by omega), g0, g1, Int.le_refl, sub0, same_eq (a := []) (b := []) (by simp), beq_self_eq_true]
                  exact jok
                · by_cases d4 : act.Do = 4
                  · simp only [letJ, d4, if_true, cond_true, cond_false, if_false, show ¬ (4 : Int) = 0 from by decide, show ¬ (4 : Int) = 1 from by decide, show ¬ (4 : Int) = 2 from by decide, show ¬ (4 : Int) = 3 from by decide, fail_eq, failC_set hset, Option.bind_some, hne]
                    exact jok
                  · simp only [letJ, d0, d1, d2, d3, d4, if_true, cond_true, cond_false, if_false, peek_eq ok, Option.bind_some, hne, reduceCtorEq, false_and, bne_self_eq_false]
                    exact jok
    · rw [if_neg h3]
      exact ⟨_, rfl⟩

theorem BytesActs_true (x0 : List Int) (x1 : Int) (x2 : List shutterlaw06_Act) (w0 : ∀ y ∈ x0, Wf .u8 y) (_ : x0.length ≤ maxLen) (_ : Wf .i64 x1) (_ : ∀ y ∈ x2, ok_shutterlaw06_Act y) (_ : x2.length ≤ maxLen) :
    shutterlaw06_BytesActs.m KK x0 x1 x2 = some true := by
  unfold shutterlaw06_BytesActs.m
  rw [awake06, Option.bind_some, cond_true]
  split
  · rfl
  · split
    · rfl
    · rename_i h1 h2
      rw [new_eq (by omega), Option.bind_some]
      obtain ⟨q, hq⟩ := actsLoop (size := x1) (acts := x2) w0 (by omega) (by omega) KK 0 0 0 (-1) .nil (Int.le_refl _) (by omega) (by unfold KK; omega) ⟨Int.le_refl _, by simp only; omega, by simp only; omega, w0⟩ (.inl ⟨rfl, rfl, rfl⟩)
      simp only [hq, Option.bind_some]
end Go.Proofs.YtenlbpcfilmgpaaDoor.Sx
