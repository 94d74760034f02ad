import Derived.Test.YtjkbhpokboolpaaGreatDoorPD
namespace Go.Proofs.YtjkbhpokboolpaaGreatDoor.Sx
open Go
def kindOf (b : Int) : Int := if b = 29 then 2 else if b = 17 then 3 else if b = 19 then 4 else if b = 5 then 5 else if b = 60 then 6 else if b = 18 then 7 else 0
set_option maxRecDepth 100000 in
theorem kind_all : (List.range 256).all (fun b => order_kind.m KK (b : Int) == some (kindOf (b : Int))) = true := by kernel_rfl
theorem kind_eq {b : Int} (h0 : 0 ≤ b) (h1 : b ≤ 255) : order_kind.m KK b = some (kindOf b) := by
  have := allN (N := 256) (p := fun b => order_kind.m KK b == some (kindOf b)) kind_all h0 (by omega)
  simpa only [beq_iff_eq] using this
def gO (b : List Int) (p n : Int) : api_Order × Int × GoErr :=
  if p = (b.length : Int) then (zO, p, .no 2)
  else if chr (at_ b p) then (⟨1, sub b p (p + cnt (b.drop p.toNat)), zAt, 0, 0⟩, p + cnt (b.drop p.toNat), .nil)
  else if at_ b p = 19 then (⟨4, [], zAt, 0, 0⟩, p + 1, .nil)
  else if at_ b p = 5 then (⟨5, [], zAt, 0, 0⟩, p + 1, .nil)
  else if at_ b p = 29 then
    if p + 1 = (b.length : Int) then (zO, p + 1, .no 2)
    else if (getA (at_ b (p + 1))).2 = .nil then (⟨2, [], (getA (at_ b (p + 1))).1, 0, 0⟩, p + 2, .nil) else (zO, p + 1, .no 3)
  else if at_ b p = 17 ∨ at_ b p = 18 ∨ at_ b p = 60 then
    if (getOf (b.drop (p + 1).toNat) n).2 = .nil then
      if at_ b p = 17 then (⟨3, [], zAt, (getOf (b.drop (p + 1).toNat) n).1, 0⟩, p + 3, .nil)
      else if at_ b p = 18 then (⟨7, [], zAt, (getOf (b.drop (p + 1).toNat) n).1, 0⟩, p + 3, .nil)
      else if p + 3 = (b.length : Int) then (zO, p + 3, .no 2)
      else if chr (at_ b (p + 3)) then (⟨6, [], zAt, (getOf (b.drop (p + 1).toNat) n).1, at_ b (p + 3)⟩, p + 4, .nil)
      else (zO, p + 3, .no 3)
    else (zO, p + 1, (getOf (b.drop (p + 1).toNat) n).2)
  else (zO, p, .no 5)
def curOf (b : List Int) (g : api_Order × Int × GoErr) : bytes_Cursor := ⟨b, g.2.1, if g.2.2 = .nil then .nil else .spot g.2.1 g.2.2⟩
def getC (c : bytes_Cursor) (n : Int) : api_Order × bytes_Cursor := if c.err' = .nil then ((gO c.b' c.at' n).1, curOf c.b' (gO c.b' c.at' n)) else (zO, c)
theorem taken_eq {c : bytes_Cursor} (k : CurOk c) (e : GoErr) : order_taken.m c e = some (takeC (failC c (if (c.b'.length : Int) - c.at' = 0 then .no 2 else e)) 1).2 := by
  unfold order_taken.m
  rw [left_eq k, Option.bind_some]
  by_cases h : (c.b'.length : Int) - c.at' = 0
  · simp only [h, if_true, etaC, fail_eq, failC_mk, Option.bind_some, byte_eq (failC_ok k _)]
  · simp only [h, if_false, etaC, fail_eq, failC_mk, Option.bind_some, byte_eq (failC_ok k _)]
theorem taken_end {b : List Int} {p : Int} (e : GoErr) (h : p = (b.length : Int)) : (takeC (failC ⟨b, p, .nil⟩ (if (b.length : Int) - p = 0 then .no 2 else e)) 1).2 = ⟨b, p, .spot p (.no 2)⟩ := by
  rw [if_pos (by omega)]
  have : failC ⟨b, p, .nil⟩ (.no 2) = ⟨b, p, .spot p (.no 2)⟩ := by unfold failC; rw [if_pos (by simp)]
  rw [this, takeC_set (by simp)]
theorem taken_ok {b : List Int} {p : Int} (h : p < (b.length : Int)) : (takeC (failC ⟨b, p, .nil⟩ (if (b.length : Int) - p = 0 then .no 2 else .nil)) 1).2 = ⟨b, p + 1, .nil⟩ := by
  rw [if_neg (by omega)]
  have : failC ⟨b, p, .nil⟩ .nil = ⟨b, p, .nil⟩ := by unfold failC; rw [if_neg (by simp)]
  rw [this]
  unfold takeC
  rw [if_neg (by simp only; omega), if_pos rfl]
theorem taken_bad {b : List Int} {p : Int} {e : GoErr} (h : p < (b.length : Int)) (he : e ≠ .nil) : (takeC (failC ⟨b, p, .nil⟩ (if (b.length : Int) - p = 0 then .no 2 else e)) 1).2 = ⟨b, p, .spot p e⟩ := by
  rw [if_neg (by omega)]
  have : failC ⟨b, p, .nil⟩ e = ⟨b, p, .spot p e⟩ := by unfold failC; rw [if_pos ⟨rfl, he⟩]
  rw [this, takeC_set (by simp)]
theorem byte_ok {b : List Int} {p : Int} (k : CurOk ⟨b, p, .nil⟩) (h : p < (b.length : Int)) : bytes_Cursor_Byte.m ⟨b, p, .nil⟩ = some (at_ b p, ⟨b, p + 1, .nil⟩) := by
  have h0 := k.h0
  simp only at h0
  rw [byte_eq k]
  have : takeC ⟨b, p, .nil⟩ 1 = (sub b p (p + 1), ⟨b, p + 1, .nil⟩) := by unfold takeC; rw [if_neg (by simp only; omega), if_pos rfl]
  rw [this, sub1 h0 h]
  rfl
theorem start_eq {b : List Int} {p : Int} (k : CurOk ⟨b, p, .nil⟩) : ∃ a, order_start.m ⟨b, p, .nil⟩ = some (a, if p = (b.length : Int) then ⟨b, p, .spot p (.no 2)⟩ else if (getA (at_ b p)).2 = .nil then ⟨b, p + 1, .nil⟩ else ⟨b, p, .spot p (.no 3)⟩) ∧
    (p ≠ (b.length : Int) → a = (getA (at_ b p)).1) := by
  have h0 := k.h0; have h1 := k.h1
  simp only at h0 h1
  unfold order_start.m
  rw [peek_eq k, Option.bind_some]
  by_cases h : p = (b.length : Int)
  · rw [if_neg (by simp only; omega)]
    simp only [(getA_facts (b := 0) (by decide) (by decide)).1, Option.bind_some, taken_eq k, taken_end _ h, if_pos h]
    exact ⟨_, rfl, fun x => absurd h x⟩
  · have hlt : p < (b.length : Int) := by omega
    have u := at_u8 k.u8 (i := p) h0 hlt
    obtain ⟨g1, _, g3⟩ := getA_facts u.1 u.2
    rw [if_pos ⟨rfl, hlt⟩]
    simp only [g1, Option.bind_some, taken_eq k, if_neg h]
    rcases g3 with ⟨e, _, _⟩ | ⟨e, _⟩
    · simp only [e, taken_ok hlt, if_true]
      exact ⟨_, rfl, fun _ => rfl⟩
    · simp only [e, taken_bad hlt (e := .no 3) (by simp), reduceCtorEq, if_false]
      exact ⟨_, rfl, fun _ => rfl⟩
theorem char_c_eq {b : List Int} {p : Int} (k : CurOk ⟨b, p, .nil⟩) : ∃ a, order_char.m ⟨b, p, .nil⟩ = some (a, if p = (b.length : Int) then ⟨b, p, .spot p (.no 2)⟩ else if chr (at_ b p) = true then ⟨b, p + 1, .nil⟩ else ⟨b, p, .spot p (.no 3)⟩) ∧
    (p ≠ (b.length : Int) → a = at_ b p) := by
  have h0 := k.h0; have h1 := k.h1
  simp only at h0 h1
  unfold order_char.m
  rw [peek_eq k, Option.bind_some]
  by_cases h : p = (b.length : Int)
  · rw [if_neg (by simp only; omega)]
    simp only [char_eq, show chr 0 = true from rfl, Option.bind_some, taken_eq k, taken_end _ h, if_pos h, cond_true]
    exact ⟨_, rfl, fun x => absurd h x⟩
  · have hlt : p < (b.length : Int) := by omega
    rw [if_pos ⟨rfl, hlt⟩]
    simp only [char_eq, Option.bind_some, taken_eq k, if_neg h]
    cases hc : chr (at_ b p) with
    | true => simp only [cond_true, taken_ok hlt, if_true]; exact ⟨_, rfl, fun _ => rfl⟩
    | false => simp only [cond_false, taken_bad hlt (e := .no 3) (by simp), Bool.false_eq_true, if_false]; exact ⟨_, rfl, fun _ => rfl⟩
theorem oget_eq {c : bytes_Cursor} (k : CurOk c) (n : Int) : order_Get.m KK c n = some (getC c n) := by
  obtain ⟨b, p, e⟩ := c
  have h0 := k.h0; have h1 := k.h1; have h2 := k.h2
  simp only at h0 h1 h2
  unfold order_Get.m getC
  simp only [letJ, peek_eq k, Option.bind_some]
  by_cases he : e = .nil
  · subst he
    simp only [true_and, if_true]
    by_cases hp : p < (b.length : Int)
    · have u := at_u8 k.u8 (i := p) h0 hp
      simp only [hp, if_true, cond_true, char_eq, Option.bind_some]
      cases hc : chr (at_ b p) with
      | true =>
        simp only [cond_true, chars_eq k, Option.bind_some]
        unfold charsC gO curOf
        simp only [if_neg (show ¬ p = (b.length : Int) by omega), hc, if_true]
        rfl
      | false =>
        simp only [cond_false, kind_eq u.1 u.2, Option.bind_some, byte_ok k hp, err_eq, fail_eq]
        have k1 : CurOk ⟨b, p + 1, .nil⟩ := ⟨by simp only; omega, by simp only; omega, k.h2, k.u8⟩
        have hg0 : gO b p n = if at_ b p = 19 then (⟨4, [], zAt, 0, 0⟩, p + 1, .nil)
            else if at_ b p = 5 then (⟨5, [], zAt, 0, 0⟩, p + 1, .nil)
            else if at_ b p = 29 then
              if p + 1 = (b.length : Int) then (zO, p + 1, .no 2)
              else if (getA (at_ b (p + 1))).2 = .nil then (⟨2, [], (getA (at_ b (p + 1))).1, 0, 0⟩, p + 2, .nil) else (zO, p + 1, .no 3)
            else if at_ b p = 17 ∨ at_ b p = 18 ∨ at_ b p = 60 then
              if (getOf (b.drop (p + 1).toNat) n).2 = .nil then
                if at_ b p = 17 then (⟨3, [], zAt, (getOf (b.drop (p + 1).toNat) n).1, 0⟩, p + 3, .nil)
                else if at_ b p = 18 then (⟨7, [], zAt, (getOf (b.drop (p + 1).toNat) n).1, 0⟩, p + 3, .nil)
                else if p + 3 = (b.length : Int) then (zO, p + 3, .no 2)
                else if chr (at_ b (p + 3)) then (⟨6, [], zAt, (getOf (b.drop (p + 1).toNat) n).1, at_ b (p + 3)⟩, p + 4, .nil)
                else (zO, p + 3, .no 3)
              else (zO, p + 1, (getOf (b.drop (p + 1).toNat) n).2)
            else (zO, p, .no 5) := by
          unfold gO
          rw [if_neg (show ¬ p = (b.length : Int) by omega), hc]
          rfl
        rw [hg0]
        generalize hx : at_ b p = x at *
        by_cases x29 : x = 29
        · subst x29
          obtain ⟨a, e1, e2⟩ := start_eq k1
          simp only [kindOf, if_true, show ¬ (2 : Int) = 0 from by decide, show ¬ (2 : Int) = 6 from by decide, if_false, cond_true, cond_false, e1, Option.bind_some, show ¬ (29 : Int) = 19 from by decide, show ¬ (29 : Int) = 5 from by decide]
          by_cases hl : p + 1 = (b.length : Int)
          · simp only [hl, if_true, reduceCtorEq, if_false]; rfl
          · obtain rfl := e2 hl
            simp only [hl, if_false]
            have u2 := at_u8 k.u8 (i := p + 1) (by omega) (by simp only; omega)
            rcases (getA_facts u2.1 u2.2).2.2 with ⟨g1, _, _⟩ | ⟨g1, _⟩
            · simp only [g1, if_true, show p + 1 + 1 = p + 2 by omega]; rfl
            · simp only [g1, reduceCtorEq, if_false]; rfl
        · by_cases x19 : x = 19
          · subst x19
            simp only [kindOf, if_true, if_false, cond_false, show ¬ (19 : Int) = 29 from by decide, show ¬ (19 : Int) = 17 from by decide, show ¬ (4 : Int) = 0 from by decide, show ¬ (4 : Int) = 2 from by decide, show ¬ (4 : Int) = 6 from by decide, show ¬ (4 : Int) = 3 from by decide, show ¬ (4 : Int) = 7 from by decide]
            rfl
          · by_cases x5 : x = 5
            · subst x5
              simp only [kindOf, if_true, if_false, cond_false, show ¬ (5 : Int) = 29 from by decide, show ¬ (5 : Int) = 17 from by decide, show ¬ (5 : Int) = 19 from by decide, show ¬ (5 : Int) = 0 from by decide, show ¬ (5 : Int) = 2 from by decide, show ¬ (5 : Int) = 6 from by decide, show ¬ (5 : Int) = 3 from by decide, show ¬ (5 : Int) = 7 from by decide]
              rfl
            · have hea : addrC ⟨b, p + 1, .nil⟩ n = if (getOf (b.drop (p + 1).toNat) n).2 = .nil then ((getOf (b.drop (p + 1).toNat) n).1, ⟨b, p + 1 + 2, .nil⟩) else (0, ⟨b, p + 1, .spot (p + 1) (getOf (b.drop (p + 1).toNat) n).2⟩) := by
                unfold addrC; rw [if_pos rfl]
              by_cases x17 : x = 17
              · subst x17
                simp only [kindOf, if_true, if_false, cond_false, show ¬ (17 : Int) = 29 from by decide, show ¬ (17 : Int) = 19 from by decide, show ¬ (17 : Int) = 5 from by decide, show ¬ (3 : Int) = 0 from by decide, show ¬ (3 : Int) = 2 from by decide, show ¬ (3 : Int) = 6 from by decide, addr_eq k1, Option.bind_some, hea, true_or]
                by_cases hg : (getOf (b.drop (p + 1).toNat) n).2 = .nil
                · simp only [hg, if_true, show p + 1 + 2 = p + 3 by omega]; rfl
                · simp only [hg, if_false, reduceCtorEq, curOf]; rfl
              · by_cases x18 : x = 18
                · subst x18
                  simp only [kindOf, if_true, if_false, cond_false, show ¬ (18 : Int) = 29 from by decide, show ¬ (18 : Int) = 17 from by decide, show ¬ (18 : Int) = 19 from by decide, show ¬ (18 : Int) = 5 from by decide, show ¬ (18 : Int) = 60 from by decide, show ¬ (7 : Int) = 0 from by decide, show ¬ (7 : Int) = 2 from by decide, show ¬ (7 : Int) = 6 from by decide, show ¬ (7 : Int) = 3 from by decide, addr_eq k1, Option.bind_some, hea, true_or, or_true]
                  by_cases hg : (getOf (b.drop (p + 1).toNat) n).2 = .nil
                  · simp only [hg, if_true, show p + 1 + 2 = p + 3 by omega]; rfl
                  · simp only [hg, if_false, reduceCtorEq, curOf]; rfl
                · by_cases x60 : x = 60
                  · subst x60
                    simp only [kindOf, if_true, if_false, cond_false, show ¬ (60 : Int) = 29 from by decide, show ¬ (60 : Int) = 17 from by decide, show ¬ (60 : Int) = 18 from by decide, show ¬ (60 : Int) = 19 from by decide, show ¬ (60 : Int) = 5 from by decide, show ¬ (6 : Int) = 0 from by decide, show ¬ (6 : Int) = 2 from by decide, addr_eq k1, Option.bind_some, hea, or_true]
                    by_cases hg : (getOf (b.drop (p + 1).toNat) n).2 = .nil
                    · have hl3 := getOf_good hg
                      rw [List.length_drop] at hl3
                      have k3 : CurOk ⟨b, p + 3, .nil⟩ := ⟨by simp only; omega, by simp only; omega, k.h2, k.u8⟩
                      obtain ⟨a, e1, e2⟩ := char_c_eq k3
                      simp only [hg, if_true, show p + 1 + 2 = p + 3 by omega, e1, Option.bind_some]
                      by_cases hl : p + 3 = (b.length : Int)
                      · simp only [hl, if_true, reduceCtorEq, if_false]; rfl
                      · obtain rfl := e2 hl
                        simp only [hl, if_false]
                        cases hc3 : chr (at_ b (p + 3)) with
                        | true => simp only [if_true, show p + 3 + 1 = p + 4 by omega]; rfl
                        | false => simp only [Bool.false_eq_true, if_false, reduceCtorEq]; rfl
                    · have hs : (order_char.m ⟨b, p + 1, .spot (p + 1) (getOf (b.drop (p + 1).toNat) n).2⟩) = some (0, ⟨b, p + 1, .spot (p + 1) (getOf (b.drop (p + 1).toNat) n).2⟩) := by
                        have k5 : CurOk ⟨b, p + 1, .spot (p + 1) (getOf (b.drop (p + 1).toNat) n).2⟩ := ⟨k1.h0, k1.h1, k1.h2, k1.u8⟩
                        unfold order_char.m
                        rw [peek_eq k5, Option.bind_some, if_neg (by simp)]
                        simp only [char_eq, show chr 0 = true from rfl, Option.bind_some, cond_true, taken_eq k5, failC_set (c := ⟨b, p + 1, .spot (p + 1) (getOf (b.drop (p + 1).toNat) n).2⟩) (by simp), takeC_set (c := ⟨b, p + 1, .spot (p + 1) (getOf (b.drop (p + 1).toNat) n).2⟩) (by simp)]
                      simp only [hg, if_false, hs, Option.bind_some, reduceCtorEq, curOf]; rfl
                  · simp only [kindOf, x29, x17, x19, x5, x60, x18, if_true, if_false, or_self]
                    unfold failC curOf
                    simp only [ne_eq, reduceCtorEq, not_false_eq_true, and_self, if_true, if_false]
                    rfl
    · have hp' : p = (b.length : Int) := by omega
      simp only [hp, if_false, cond_false, fail_eq, Option.bind_some]
      unfold failC gO curOf
      simp only [hp', ne_eq, reduceCtorEq, not_false_eq_true, and_self, if_true, if_false]
      rfl
  · simp only [he, false_and, if_false, cond_false, fail_eq, failC_set (c := ⟨b, p, e⟩) he, Option.bind_some]
    rfl
theorem cnt_cons (x : Int) (l : List Int) : cnt (x :: l) = if chr x = true then cnt l + 1 else 0 := by
  unfold cnt
  rw [List.takeWhile_cons]
  split <;> rfl
def whereO (g : api_Order × Int × GoErr) : Int := if g.2.2 = .nil then -1 else g.2.1
theorem attrb_eq (a b : api_Attr) : ((a.Protected == b.Protected) && ((a.Numeric == b.Numeric) && ((a.Show == b.Show) && ((a.Modified == b.Modified) && true)))) = (a == b) := by
  obtain ⟨p, n, s, m⟩ := a
  obtain ⟨p', n', s', m'⟩ := b
  rw [Bool.eq_iff_iff]
  simp
theorem ite_P {α : Type} {P : α → Prop} {c : Prop} [Decidable c] {x y : α} (h1 : P x) (h2 : P y) : P (if c then x else y) := by split <;> assumption
theorem gO_text {b : List Int} {p n : Int} : (gO b p n).1.Text.length ≤ b.length := by
  unfold gO
  repeat' (refine ite_P (P := fun g : api_Order × Int × GoErr => g.1.Text.length ≤ b.length) ?_ ?_)
  all_goals first | exact sub_lenP | exact Nat.zero_le _
end Go.Proofs.YtjkbhpokboolpaaGreatDoor.Sx

namespace Go.Proofs.YtjkbhpokboolpaaGreatDoor.Sx
open Go
def gS (s : List Int) (n : Int) : api_Order × Nat × GoErr :=
  match s with
  | [] => (zO, 0, .no 2)
  | x :: r =>
    if chr x then (⟨1, x :: r.takeWhile chr, zAt, 0, 0⟩, 1 + cnt r, .nil)
    else if x = 19 then (⟨4, [], zAt, 0, 0⟩, 1, .nil)
    else if x = 5 then (⟨5, [], zAt, 0, 0⟩, 1, .nil)
    else if x = 29 then
      match r with
      | [] => (zO, 1, .no 2)
      | y :: _ => if (getA y).2 = .nil then (⟨2, [], (getA y).1, 0, 0⟩, 2, .nil) else (zO, 1, .no 3)
    else if x = 17 ∨ x = 18 ∨ x = 60 then
      if (getOf r n).2 = .nil then
        if x = 17 then (⟨3, [], zAt, (getOf r n).1, 0⟩, 3, .nil)
        else if x = 18 then (⟨7, [], zAt, (getOf r n).1, 0⟩, 3, .nil)
        else match r.drop 2 with
          | [] => (zO, 3, .no 2)
          | z :: _ => if chr z then (⟨6, [], zAt, (getOf r n).1, z⟩, 4, .nil) else (zO, 3, .no 3)
      else (zO, 1, (getOf r n).2)
    else (zO, 0, .no 5)
theorem take_cnt (l : List Int) : l.take (cnt l) = l.takeWhile chr := by
  unfold cnt
  induction l with
  | nil => rfl
  | cons x l ih =>
    rw [List.takeWhile_cons]
    split
    · rw [List.length_cons, List.take_succ_cons, ih]
    · rfl
theorem sub_take {b : List Int} {p : Int} {k : Nat} (h0 : 0 ≤ p) : sub b p (p + (k : Int)) = (b.drop p.toNat).take k := by
  unfold sub
  congr 1; omega
theorem drop_nil {b : List Int} {p : Int} (h : p = (b.length : Int)) : b.drop p.toNat = [] := List.drop_eq_nil_of_le (by omega)
theorem drop3 {b : List Int} {p : Int} (h0 : 0 ≤ p) : (b.drop (p + 1).toNat).drop 2 = b.drop (p + 3).toNat := by rw [List.drop_drop]; congr 1; omega
theorem gO_gS {b : List Int} {p n : Int} (h0 : 0 ≤ p) (h1 : p ≤ (b.length : Int)) : gO b p n = ((gS (b.drop p.toNat) n).1, p + ((gS (b.drop p.toNat) n).2.1 : Int), (gS (b.drop p.toNat) n).2.2) := by
  by_cases hp : p = (b.length : Int)
  · rw [drop_nil hp]
    unfold gO gS
    simp [hp]
  · have hlt : p < (b.length : Int) := by omega
    have hsub : sub b p (p + (cnt (b.drop p.toNat) : Int)) = (b.drop p.toNat).takeWhile chr := by rw [sub_take h0, take_cnt]
    have hd := drop_at h0 hlt
    unfold gO
    rw [hsub, hd, if_neg hp]
    unfold gS
    generalize at_ b p = x
    cases hc : chr x with
    | true => simp only [hc, if_true, cnt_cons, List.takeWhile_cons]; simp only [Nat.add_comm]
    | false =>
      simp only [hc, Bool.false_eq_true, if_false]
      by_cases x19 : x = 19
      · simp [x19]
      by_cases x5 : x = 5
      · simp [x5]
      by_cases x29 : x = 29
      · simp only [x29, if_true, show ¬ (29 : Int) = 19 from by decide, show ¬ (29 : Int) = 5 from by decide, if_false]
        by_cases hl : p + 1 = (b.length : Int)
        · rw [drop_nil hl]; simp [hl]
        · rw [drop_at (by omega) (show p + 1 < (b.length : Int) by omega), if_neg hl]
          simp only
          split <;> rfl
      simp only [x19, x5, x29, if_false]
      by_cases h3 : x = 17 ∨ x = 18 ∨ x = 60
      · simp only [h3, if_true]
        by_cases hg : (getOf (b.drop (p + 1).toNat) n).2 = .nil
        · simp only [hg, if_true]
          by_cases x17 : x = 17
          · simp [x17]
          by_cases x18 : x = 18
          · simp [x18]
          simp only [x17, x18, if_false, drop3 h0]
          have hl3 := getOf_good hg
          rw [List.length_drop] at hl3
          by_cases hl : p + 3 = (b.length : Int)
          · rw [drop_nil hl]; simp [hl]
          · rw [drop_at (by omega) (show p + 3 < (b.length : Int) by omega), if_neg hl]
            simp only
            split <;> rfl
        · simp only [hg, if_false]; rfl
      · simp only [h3, if_false]; simp
theorem gS_put {o : api_Order} {n : Int} (r : RightO o n) (n1 : 1 ≤ n) (n2 : n ≤ 16383) (rest : List Int) (hr : o.Kind = 1 → cnt rest = 0) : gS (putO o n ++ rest) n = (o, (putO o n).length, .nil) := by
  obtain ⟨k, t, a, ad, ch⟩ := o
  have h1 := r.lo; have h2 := r.hi
  have rt := r.text; have ra := r.attr; have rp := r.addr; have rc := r.char; have rna := r.noattr; have rnc := r.nochar; have rnp := r.noaddr; have rch := r.chars
  simp only at h1 h2 rt ra rp rc rna rnc rnp rch hr
  unfold putO
  simp only
  rcases kinds (k := k) (by omega) (by omega) with rfl | rfl | rfl | rfl | rfl | rfl | rfl
  · obtain rfl := rna (by decide); obtain rfl := rnc (by decide); obtain rfl := rnp (by decide)
    cases t with
    | nil => exact absurd rfl (rt.1 rfl)
    | cons x t =>
      simp only [List.all_cons, Bool.and_eq_true] at rch
      have ht : (t ++ rest).takeWhile chr = t := by
        rw [List.takeWhile_append_of_pos (by simpa using rch.2)]
        have : rest.takeWhile chr = [] := by
          have := hr rfl
          unfold cnt at this
          exact List.eq_nil_of_length_eq_zero this
        rw [this, List.append_nil]
      have hc : cnt (t ++ rest) = t.length := by unfold cnt; rw [ht]
      simp only [if_true, List.cons_append, gS, rch.1, ht, hc, List.length_cons, Nat.add_comm]
  · have e : t = [] := Classical.byContradiction (fun h => absurd (rt.2 h) (by decide))
    subst e
    obtain rfl := rnc (by decide); obtain rfl := rnp (by decide)
    have hg := getA_put (ra rfl)
    simp only [show ¬ (2 : Int) = 1 from by decide, if_false, if_true, List.cons_append, List.nil_append, gS, show chr 29 = false from rfl, Bool.false_eq_true, show ¬ (29 : Int) = 19 from by decide, show ¬ (29 : Int) = 5 from by decide, hg]
    rfl
  · have e : t = [] := Classical.byContradiction (fun h => absurd (rt.2 h) (by decide))
    subst e
    obtain rfl := rna (by decide); obtain rfl := rnc (by decide)
    obtain ⟨p1, p2⟩ := rp (by simp)
    simp [gS, get_put n1 n2 p1 p2, show chr 17 = false from rfl, put_len]
  · have e : t = [] := Classical.byContradiction (fun h => absurd (rt.2 h) (by decide))
    subst e
    obtain rfl := rna (by decide); obtain rfl := rnc (by decide); obtain rfl := rnp (by decide)
    simp [gS, show chr 19 = false from rfl]
  · have e : t = [] := Classical.byContradiction (fun h => absurd (rt.2 h) (by decide))
    subst e
    obtain rfl := rna (by decide); obtain rfl := rnc (by decide); obtain rfl := rnp (by decide)
    simp [gS, show chr 5 = false from rfl]
  · have e : t = [] := Classical.byContradiction (fun h => absurd (rt.2 h) (by decide))
    subst e
    obtain rfl := rna (by decide)
    obtain ⟨p1, p2⟩ := rp (by simp)
    have hd : List.drop 2 (putOf ad n ++ (ch :: rest)) = ch :: rest := by
      rw [List.drop_append, put_len, List.drop_of_length_le (by rw [put_len]; exact Nat.le_refl 2)]; rfl
    simp [gS, get_put n1 n2 p1 p2, show chr 60 = false from rfl, put_len, rc rfl, hd]
  · have e : t = [] := Classical.byContradiction (fun h => absurd (rt.2 h) (by decide))
    subst e
    obtain rfl := rna (by decide); obtain rfl := rnc (by decide)
    obtain ⟨p1, p2⟩ := rp (by simp)
    simp [gS, get_put n1 n2 p1 p2, show chr 18 = false from rfl, put_len]
theorem getOf_take {l : List Int} {n : Int} (h : 2 ≤ l.length) : getOf (l.take 2) n = getOf l n := by
  match l, h with
  | a :: b :: r, _ =>
    unfold getOf
    simp only [List.take_succ_cons, List.take_zero, List.length_cons, List.length_nil, show at_ (a :: b :: r) 0 = a from rfl, show at_ (a :: b :: r) 1 = b from rfl, show at_ [a, b] 0 = a from rfl, show at_ [a, b] 1 = b from rfl]
    rw [if_neg (show ¬ (((0 + 1 + 1 : Nat) : Int) < 2) by omega), if_neg (show ¬ (((r.length + 1 + 1 : Nat) : Int) < 2) by omega)]
theorem putOf_get {l : List Int} {n : Int} (w : ∀ y ∈ l, Wf .u8 y) (n1 : 1 ≤ n) (n2 : n ≤ 16383) (h : (getOf l n).2 = .nil) : 2 ≤ l.length ∧ 0 ≤ (getOf l n).1 ∧ (getOf l n).1 < n ∧ putOf (getOf l n).1 n = l.take 2 := by
  have hl := getOf_good h
  have hl2 : 2 ≤ l.length := by omega
  refine ⟨hl2, ?_⟩
  rcases put_get (l := l.take 2) (by simp; omega) (fun y hy => w y (List.mem_of_mem_take hy)) n1 n2 with ⟨_, e2, e3, e4⟩ | ⟨e1, _⟩
  · rw [getOf_take hl2] at e2 e3 e4
    exact ⟨e2, e3, e4⟩
  · rw [getOf_take hl2] at e1
    exact absurd h e1
structure GotO (s : List Int) (n : Int) (o : api_Order) (k : Nat) : Prop where
  right : RightO o n
  put : putO o n = s.take k
  pos : 1 ≤ k
  le : k ≤ s.length
  last : o.Kind = 1 → cnt (s.drop k) = 0
theorem all_takeWhile (l : List Int) : (l.takeWhile chr).all chr = true := by
  induction l with
  | nil => rfl
  | cons x l ih =>
    rw [List.takeWhile_cons]
    split
    · rename_i h; simp [h, ih]
    · rfl
theorem cnt_drop (l : List Int) : cnt (l.drop (cnt l)) = 0 := by
  induction l with
  | nil => rfl
  | cons x l ih =>
    rw [cnt_cons]
    split
    · exact ih
    · rename_i h; rw [List.drop_zero, cnt_cons, if_neg h]
theorem gS_get {s : List Int} {n : Int} (w : ∀ y ∈ s, Wf .u8 y) (n1 : 1 ≤ n) (n2 : n ≤ 16383) (h : (gS s n).2.2 = .nil) : GotO s n (gS s n).1 (gS s n).2.1 := by
  cases s with
  | nil => simp [gS] at h
  | cons x r =>
    have wr : ∀ y ∈ r, Wf .u8 y := fun y hy => w y (List.mem_cons_of_mem _ hy)
    unfold gS at h ⊢
    simp only at h ⊢
    cases hc : chr x with
    | true =>
      simp only [if_true]
      have hl := cnt_le r
      refine ⟨⟨by simp, by simp, by simp, ?_, by simp, by simp, by simp, by simp, by simp, by simp⟩, ?_, by omega, by simp; omega, fun _ => ?_⟩
      · simp only [List.all_cons, hc, Bool.true_and]; exact all_takeWhile r
      · simp only [putO, if_true, Nat.add_comm 1, List.take_succ_cons, take_cnt]
      · rw [Nat.add_comm 1, List.drop_succ_cons]; exact cnt_drop r
    | false =>
      simp only [hc, Bool.false_eq_true, if_false] at h ⊢
      by_cases x19 : x = 19
      · subst x19
        simp only [if_true]
        exact ⟨⟨by simp, by simp, by simp, by simp, by simp, by simp, by simp, by simp, by simp, by simp⟩, by simp [putO], by simp, by simp, by simp⟩
      simp only [x19, if_false] at h ⊢
      by_cases x5 : x = 5
      · subst x5
        simp only [if_true]
        exact ⟨⟨by simp, by simp, by simp, by simp, by simp, by simp, by simp, by simp, by simp, by simp⟩, by simp [putO], by simp, by simp, by simp⟩
      simp only [x5, if_false] at h ⊢
      by_cases x29 : x = 29
      · subst x29
        simp only [if_true] at h ⊢
        cases r with
        | nil => simp at h
        | cons y r =>
          simp only at h ⊢
          have u := b_u8 (wr y (by simp))
          rcases (getA_facts u.1 u.2).2.2 with ⟨e1, e2, e3⟩ | ⟨e1, _⟩
          · simp only [e1, if_true]
            exact ⟨⟨by simp, by simp, by simp, by simp, fun _ => e2, by simp, by simp, by simp, by simp, by simp⟩, by simp [putO, e3], by simp, by simp, by simp⟩
          · rw [e1, if_neg (by simp)] at h
            simp at h
      simp only [x29, if_false] at h ⊢
      by_cases h3 : x = 17 ∨ x = 18 ∨ x = 60
      · simp only [h3, if_true] at h ⊢
        by_cases hg : (getOf r n).2 = .nil
        · obtain ⟨g1, g2, g3, g4⟩ := putOf_get wr n1 n2 hg
          simp only [hg, if_true] at h ⊢
          by_cases x17 : x = 17
          · subst x17
            simp only [if_true]
            exact ⟨⟨by simp, by simp, by simp, by simp, by simp, by simp, by simp, by simp, fun _ => ⟨g2, g3⟩, by simp⟩, by simp [putO, g4], by simp, by simp; omega, by simp⟩
          simp only [x17, if_false] at h ⊢
          by_cases x18 : x = 18
          · subst x18
            simp only [if_true]
            exact ⟨⟨by simp, by simp, by simp, by simp, by simp, by simp, by simp, by simp, fun _ => ⟨g2, g3⟩, by simp⟩, by simp [putO, g4], by simp, by simp; omega, by simp⟩
          simp only [x18, if_false] at h ⊢
          have x60 : x = 60 := by rcases h3 with h3 | h3 | h3 <;> first | exact absurd h3 x17 | exact absurd h3 x18 | exact h3
          subst x60
          match r, g1 with
          | a :: b :: r, _ =>
            simp only [List.drop_succ_cons, List.drop_zero] at h ⊢
            cases r with
            | nil => simp at h
            | cons z r =>
              simp only at h ⊢
              cases hz : chr z with
              | false => rw [hz] at h; simp at h
              | true =>
                simp only [if_true]
                refine ⟨⟨by simp, by simp, by simp, by simp, by simp, by simp, fun _ => hz, by simp, fun _ => ⟨g2, g3⟩, by simp⟩, ?_, by simp, by simp, by simp⟩
                simp only [putO, show ¬ (6 : Int) = 1 from by decide, show ¬ (6 : Int) = 2 from by decide, show ¬ (6 : Int) = 4 from by decide, show ¬ (6 : Int) = 5 from by decide, show ¬ (6 : Int) = 3 from by decide, show ¬ (6 : Int) = 7 from by decide, if_false, g4]
                rfl
        · rw [if_neg hg] at h
          exact absurd h hg
      · simp only [h3, if_false] at h
        simp at h
theorem putO_pos {o : api_Order} {n : Int} (r : RightO o n) : 1 ≤ (putO o n).length := by
  unfold putO
  have := r.text
  repeat' split
  all_goals first | (simp; done) | (rename_i h; have := this.1 h; cases ht : o.Text with | nil => exact absurd ht this | cons a b => simp) | (simp [put_len])
theorem putO_le {o : api_Order} {n : Int} : (putO o n).length ≤ o.Text.length + 4 := by
  unfold putO
  repeat' split
  all_goals first | omega | (simp [put_len]) | (simp [put_len]; omega)
theorem putO_head {o : api_Order} {n : Int} (r : RightO o n) (h : o.Kind ≠ 1) (rest : List Int) : cnt (putO o n ++ rest) = 0 := by
  unfold putO
  rw [if_neg h]
  repeat' split
  all_goals (simp only [List.cons_append, cnt_cons]; rfl)
end Go.Proofs.YtjkbhpokboolpaaGreatDoor.Sx
