import Derived.Test.YtjkbhpokboolpaaGreatDoorPG
namespace Go.Proofs.YtjkbhpokboolpaaGreatDoor.Sx
open Go
def rdS (n : Int) : Nat → List Int → List api_Order × Nat × GoErr
  | 0, _ => ([], 0, .nil)
  | k + 1, s => if s = [] then ([], 0, .nil) else
    if (gS s n).2.2 = .nil then ((gS s n).1 :: (rdS n k (s.drop (gS s n).2.1)).1, (gS s n).2.1 + (rdS n k (s.drop (gS s n).2.1)).2.1, (rdS n k (s.drop (gS s n).2.1)).2.2)
    else ([], (gS s n).2.1, (gS s n).2.2)
def rd (n : Int) (s : List Int) : List api_Order × Nat × GoErr := rdS n s.length s
theorem gS_pos {s : List Int} {n : Int} (h : (gS s n).2.2 = .nil) : 1 ≤ (gS s n).2.1 := by
  cases s with
  | nil => simp [gS] at h
  | cons x r =>
    unfold gS at h ⊢
    simp only at h ⊢
    cases hc : chr x with
    | true => simp only [if_true]; omega
    | false =>
      simp only [hc, Bool.false_eq_true, if_false] at h ⊢
      by_cases x19 : x = 19
      · simp [x19]
      simp only [x19, if_false] at h ⊢
      by_cases x5 : x = 5
      · simp [x5]
      simp only [x5, if_false] at h ⊢
      by_cases x29 : x = 29
      · simp only [x29, if_true] at h ⊢
        cases r with
        | nil => simp at h
        | cons y r => simp only at h ⊢; split <;> simp
      simp only [x29, if_false] at h ⊢
      by_cases h3 : x = 17 ∨ x = 18 ∨ x = 60
      · simp only [h3, if_true] at h ⊢
        by_cases hg : (getOf r n).2 = .nil
        · simp only [hg, if_true] at h ⊢
          by_cases x17 : x = 17
          · simp [x17]
          simp only [x17, if_false] at h ⊢
          by_cases x18 : x = 18
          · simp [x18]
          simp only [x18, if_false] at h ⊢
          cases hd : r.drop 2 with
          | nil => simp
          | cons z t => simp only; split <;> simp
        · rw [if_neg hg] at h; exact absurd h hg
      · simp only [h3, if_false] at h; simp at h
theorem gS_le {s : List Int} {n : Int} : (gS s n).2.1 ≤ s.length := by
  cases s with
  | nil => simp [gS]
  | cons x r =>
    unfold gS
    simp only [List.length_cons]
    have hc := cnt_le r
    refine ite_P (P := fun g : api_Order × Nat × GoErr => g.2.1 ≤ r.length + 1) (by simp only; omega) ?_
    refine ite_P (P := fun g : api_Order × Nat × GoErr => g.2.1 ≤ r.length + 1) (by simp only; omega) ?_
    refine ite_P (P := fun g : api_Order × Nat × GoErr => g.2.1 ≤ r.length + 1) (by simp only; omega) ?_
    refine ite_P (P := fun g : api_Order × Nat × GoErr => g.2.1 ≤ r.length + 1) ?_ ?_
    · cases r with
      | nil => simp
      | cons y r => exact ite_P (P := fun g : api_Order × Nat × GoErr => g.2.1 ≤ (y :: r).length + 1) (by simp) (by simp)
    refine ite_P (P := fun g : api_Order × Nat × GoErr => g.2.1 ≤ r.length + 1) ?_ (by simp)
    by_cases hg : (getOf r n).2 = .nil
    · have h2 := getOf_good hg
      rw [if_pos hg]
      refine ite_P (P := fun g : api_Order × Nat × GoErr => g.2.1 ≤ r.length + 1) (by simp only; omega) ?_
      refine ite_P (P := fun g : api_Order × Nat × GoErr => g.2.1 ≤ r.length + 1) (by simp only; omega) ?_
      cases hd : r.drop 2 with
      | nil => simp only; omega
      | cons z t =>
        have hl := congrArg List.length hd
        rw [List.length_drop, List.length_cons] at hl
        exact ite_P (P := fun g : api_Order × Nat × GoErr => g.2.1 ≤ r.length + 1) (by simp only; omega) (by simp only; omega)
    · rw [if_neg hg]; simp
theorem rdS_fuel {n : Int} : ∀ (k m : Nat) (s : List Int), s.length ≤ k → s.length ≤ m → rdS n k s = rdS n m s := by
  intro k
  induction k with
  | zero =>
    intro m s h1 h2
    have : s = [] := List.eq_nil_of_length_eq_zero (by omega)
    subst this
    cases m <;> simp [rdS]
  | succ k ih =>
    intro m s h1 h2
    cases m with
    | zero =>
      have : s = [] := List.eq_nil_of_length_eq_zero (by omega)
      subst this
      simp [rdS]
    | succ m =>
      unfold rdS
      by_cases hs : s = []
      · simp [hs]
      · rw [if_neg hs, if_neg hs]
        by_cases hg : (gS s n).2.2 = .nil
        · have := gS_pos hg
          have hl : (s.drop (gS s n).2.1).length = s.length - (gS s n).2.1 := List.length_drop ..
          have hpos : 0 < s.length := by cases s with | nil => exact absurd rfl hs | cons a b => simp
          rw [if_pos hg, if_pos hg, ih m (s.drop (gS s n).2.1) (by omega) (by omega)]
        · rw [if_neg hg, if_neg hg]
theorem rd_nil' (n : Int) : rd n [] = ([], 0, .nil) := by unfold rd rdS; rfl
theorem rd_cons {n : Int} {s : List Int} (hs : s ≠ []) : rd n s = if (gS s n).2.2 = .nil then ((gS s n).1 :: (rd n (s.drop (gS s n).2.1)).1, (gS s n).2.1 + (rd n (s.drop (gS s n).2.1)).2.1, (rd n (s.drop (gS s n).2.1)).2.2) else ([], (gS s n).2.1, (gS s n).2.2) := by
  have hpos : 0 < s.length := by cases s with | nil => exact absurd rfl hs | cons a b => simp
  obtain ⟨m, hm⟩ : ∃ m, s.length = m + 1 := ⟨s.length - 1, by omega⟩
  have e1 : rd n s = rdS n (m + 1) s := by unfold rd; rw [hm]
  rw [e1]
  unfold rdS
  rw [if_neg hs]
  by_cases hg : (gS s n).2.2 = .nil
  · have := gS_pos hg
    have hl : (s.drop (gS s n).2.1).length = s.length - (gS s n).2.1 := List.length_drop ..
    have e2 : rdS n m (s.drop (gS s n).2.1) = rd n (s.drop (gS s n).2.1) := rdS_fuel _ _ _ (by omega) (Nat.le_refl _)
    rw [if_pos hg, if_pos hg, e2]
  · rw [if_neg hg, if_neg hg]
theorem gS_text {s : List Int} {n : Int} (h : (gS s n).2.2 = .nil) : (gS s n).1.Text.length ≤ s.length := by
  have h1 := gO_text (b := s) (p := 0) (n := n)
  rw [gO_gS (Int.le_refl 0) (by omega)] at h1
  simpa using h1
theorem read_loop {b : List Int} {n : Int} (w : ∀ y ∈ b, Wf .u8 y) (hb : b.length ≤ 100000) : ∀ (k : Nat) (p : Int) (acc : List api_Order), 0 ≤ p → p ≤ (b.length : Int) → (b.length : Int) - p + 1 < k → (acc.length : Int) ≤ p →
    ∃ p' e' acc', stream_Read.l1.m KK n k b p .nil acc = some (b, p', e', acc') ∧
      ((rd n (b.drop p.toNat)).2.2 = .nil → e' = .nil ∧ acc' = acc ++ (rd n (b.drop p.toNat)).1) ∧ ((rd n (b.drop p.toNat)).2.2 ≠ .nil → e' = .spot (p + ((rd n (b.drop p.toNat)).2.1 : Int)) (rd n (b.drop p.toNat)).2.2) := by
  intro k
  induction k with
  | zero => intro p acc h0 h1 h2; omega
  | succ k ih =>
    intro p acc h0 h1 h2 h3
    have ok : CurOk ⟨b, p, .nil⟩ := ⟨h0, h1, hb, w⟩
    rw [stream_Read.l1.m]
    simp only [left_eq ok, Option.bind_some]
    by_cases hp : (b.length : Int) - p > 0
    · have hne : b.drop p.toNat ≠ [] := by
        intro h
        have := congrArg List.length h
        rw [List.length_drop] at this
        simp at this
        omega
      have hgO := gO_gS (n := n) h0 h1
      rw [rd_cons hne]
      simp only [hp, if_true, err_eq, Option.bind_some, oget_eq ok]
      unfold getC
      simp only [if_true]
      rw [app_ok (by simp; omega), Option.bind_some, hgO]
      unfold curOf
      simp only
      generalize hg : gS (b.drop p.toNat) n = g at *
      by_cases he : g.2.2 = .nil
      · have hgl : g.2.1 ≤ (b.drop p.toNat).length ∨ True := .inr trivial
        have hpos := gS_pos (s := b.drop p.toNat) (n := n) (by rw [hg]; exact he)
        rw [hg] at hpos
        have hto : p + (g.2.1 : Int) ≤ (b.length : Int) := by
          have ok2 := hgO
          have hk := (show CurOk (getC ⟨b, p, .nil⟩ n).2 from by
            unfold getC curOf
            simp only [if_true, hgO, he]
            refine ⟨by simp only; omega, ?_, hb, w⟩
            simp only
            have hle : g.2.1 ≤ (b.drop p.toNat).length := by
              have := gS_le (s := b.drop p.toNat) (n := n)
              rw [hg] at this
              exact this
            rw [List.length_drop] at hle
            omega)
          have := hk.h1
          unfold getC curOf at this
          simp only [if_true, hgO, he] at this
          exact this
        simp only [he, if_true]
        obtain ⟨p', e', acc', q1, q2, q3⟩ := ih (p + (g.2.1 : Int)) (acc ++ [g.1]) (by omega) hto (by omega) (by simp; omega)
        have hdd : b.drop (p + (g.2.1 : Int)).toNat = (b.drop p.toNat).drop g.2.1 := by rw [List.drop_drop]; congr 1; omega
        rw [hdd] at q2 q3
        refine ⟨p', e', acc', q1, fun h => ?_, fun h => ?_⟩
        · obtain ⟨a1, a2⟩ := q2 h
          exact ⟨a1, by rw [a2, List.append_assoc]; rfl⟩
        · rw [q3 h]; simp only [Int.natCast_add, Int.add_assoc]
      · simp only [he, if_false]
        cases k with
        | zero => omega
        | succ k =>
          have ok3 : ∀ e, CurOk ⟨b, p + (g.2.1 : Int), e⟩ := fun e => ⟨by simp only; omega, by
            simp only
            have hle : g.2.1 ≤ (b.drop p.toNat).length := by
              have := gS_le (s := b.drop p.toNat) (n := n)
              rw [hg] at this
              exact this
            rw [List.length_drop] at hle
            omega, hb, w⟩
          rw [stream_Read.l1.m]
          simp only [left_eq (ok3 _), Option.bind_some, err_eq, reduceCtorEq, if_false]
          refine ⟨p + (g.2.1 : Int), .spot (p + (g.2.1 : Int)) g.2.2, acc ++ [g.1], ?_, fun h => h.elim, fun _ => rfl⟩
          split <;> rfl
    · have hp' : p = (b.length : Int) := by omega
      rw [drop_nil hp', rd_nil']
      simp only [hp, if_false]
      exact ⟨p, .nil, acc, rfl, fun _ => ⟨rfl, by simp⟩, fun h => absurd rfl h⟩
def readOf (b : List Int) (n : Int) : api_Out × GoErr :=
  if (b.length : Int) > 8192 then (zOut, .spot 8192 (.no 6)) else
  match b with
  | [] => (zOut, .spot 0 (.no 2))
  | c :: r => if knownC c then
      if writesC c then
        match r with
        | [] => (zOut, .spot 1 (.no 2))
        | x :: s => if (getW x).2 = .nil then
             if (rd n s).2.2 = .nil then (⟨c, (getW x).1, (rd n s).1⟩, .nil) else (zOut, .spot (2 + ((rd n s).2.1 : Int)) (rd n s).2.2)
           else (zOut, .spot 1 (.no 3))
      else if r = [] then (⟨c, zW, []⟩, .nil) else (zOut, .spot 1 (.no 1))
    else (zOut, .spot 0 (.no 5))
theorem byte_end {b : List Int} {p : Int} (k : CurOk ⟨b, p, .nil⟩) (h : p = (b.length : Int)) : bytes_Cursor_Byte.m ⟨b, p, .nil⟩ = some (0, ⟨b, p, .spot p (.no 2)⟩) := by
  rw [byte_eq k]
  have : takeC ⟨b, p, .nil⟩ 1 = ([], ⟨b, p, .spot p (.no 2)⟩) := by
    unfold takeC failC
    rw [if_pos (by simp only; omega), if_pos (by simp)]
  rw [this]
  rfl
theorem sread_eq {b : List Int} {n : Int} (w : ∀ y ∈ b, Wf .u8 y) (hb : b.length ≤ 100000) : stream_Read.m KK b n = some (readOf b n) := by
  unfold stream_Read.m readOf
  by_cases hl : (b.length : Int) > 8192
  · simp only [hl, if_true, sspot_eq, Option.bind_some]; rfl
  have ok0 : CurOk ⟨b, 0, .nil⟩ := ⟨Int.le_refl _, by simp only; omega, hb, w⟩
  simp only [hl, if_false, new_eq hb, Option.bind_some, letJ, peek_eq ok0, true_and]
  cases b with
  | nil => simp only [List.length_nil, show ¬ (0 : Int) < ((0 : Nat) : Int) from by decide, if_false, cond_false, cond_true, sspot_eq, Option.bind_some]; rfl
  | cons c r =>
    have u := b_u8 (w c (by simp))
    have hlt : (0 : Int) < ((c :: r).length : Int) := by simp
    simp only [hlt, if_true, cond_true, cond_false, show at_ (c :: r) 0 = c from rfl, w64_id (n := c) (by omega) (by omega), known_eq, Option.bind_some, sspot_eq]
    cases hk : knownC c with
    | false => rfl
    | true =>
      simp only [cond_true, if_true, byte_ok ok0 hlt, show at_ (c :: r) 0 = c from rfl, w64_id (n := c) (by omega) (by omega), Option.bind_some, writes_eq]
      have ok1 : CurOk ⟨c :: r, 0 + 1, .nil⟩ := ⟨by simp only; omega, by simp only [List.length_cons]; omega, hb, w⟩
      cases hw : writesC c with
      | false =>
        simp only [cond_false, cond_true, left_eq ok1, Option.bind_some, Bool.false_eq_true, if_false]
        cases r with
        | nil => rfl
        | cons x s =>
          rw [if_pos (by simp only [List.length_cons]; omega), if_neg (by simp)]
          rfl
      | true =>
        simp only [cond_false, cond_true, if_true]
        cases r with
        | nil =>
          simp only [byte_end ok1 (by simp), Option.bind_some, err_eq, reduceCtorEq, if_false]; rfl
        | cons x s =>
          have u2 := b_u8 (w x (by simp))
          have hlt1 : (0 : Int) + 1 < ((c :: x :: s).length : Int) := by simp only [List.length_cons]; omega
          obtain ⟨g1, _, g3⟩ := getW_facts u2.1 u2.2
          simp only [byte_ok ok1 hlt1, show at_ (c :: x :: s) (0 + 1) = x from rfl, Option.bind_some, err_eq, if_true, g1]
          rcases g3 with ⟨e, _⟩ | ⟨e, _⟩
          · obtain ⟨p', e', acc', q1, q2, q3⟩ := read_loop (n := n) w hb KK (0 + 1 + 1) [] (by decide) (by simp only [List.length_cons]; omega) (by unfold KK; omega) (by simp)
            have hd : List.drop (0 + 1 + 1 : Int).toNat (c :: x :: s) = s := rfl
            rw [hd] at q2 q3
            simp only [e, if_true, q1, Option.bind_some]
            by_cases hr : (rd n s).2.2 = .nil
            · obtain ⟨rfl, rfl⟩ := q2 hr
              simp only [hr, if_true, List.nil_append]
            · have := q3 hr
              subst this
              simp only [hr, if_false, reduceCtorEq]
              rfl
          · simp only [e, reduceCtorEq, if_false, sspot_eq, Option.bind_some]; rfl
theorem equal_eq {a b : List Int} (ha : a.length ≤ 100000) : slices_Equal_bytes.m KK a b = some (a == b) := by
  unfold slices_Equal_bytes.m
  by_cases hl : (a.length : Int) = (b.length : Int)
  · rw [if_pos hl]
    have step : ∀ (k : Nat) (i : Int), 0 ≤ i → i ≤ (a.length : Int) → (a.length : Int) - i < k →
        slices_Equal_bytes.l1.m KK a b k i = some (if a.drop i.toNat = b.drop i.toNat then .inr () else .inl false) := by
      intro k
      induction k with
      | zero => intro i h0 h1 h2; omega
      | succ k ih =>
        intro i h0 h1 h2
        rw [slices_Equal_bytes.l1.m]
        simp only [letJ]
        by_cases h3 : i < (a.length : Int)
        · rw [if_pos h3, cond_true, if_pos h0, if_pos h3, if_pos (by omega), drop_at h0 h3, drop_at (l := b) h0 (by omega)]
          by_cases he : at_ a i = at_ b i
          · rw [if_pos he, w64_id (n := i + 1) (by omega) (by omega), ih (i + 1) (by omega) (by omega) (by omega), he]
            simp only [List.cons.injEq, true_and]
          · rw [if_neg he, if_neg (by simp [he])]
        · rw [if_neg h3, cond_false, if_pos]
          rw [List.drop_eq_nil_of_le (by omega), List.drop_eq_nil_of_le (by omega)]
    rw [step KK 0 (by omega) (by omega) (by unfold KK; omega), Option.bind_some]
    simp only [Int.toNat_zero, List.drop_zero]
    by_cases h : a = b
    · rw [if_pos h]; simp [h]
    · rw [if_neg h]; simp [h]
  · rw [if_neg hl]
    have : a ≠ b := fun e => hl (by rw [e])
    simp [this]
theorem sameO_eq {a b : api_Order} (ha : a.Text.length ≤ 100000) : order_Same.m KK a b = some (a == b) := by
  unfold order_Same.m
  rw [equal_eq ha, Option.bind_some, attrb_eq]
  obtain ⟨k, t, at', ad, ch⟩ := a
  obtain ⟨k', t', at'', ad', ch'⟩ := b
  simp only
  have e : ((⟨k, t, at', ad, ch⟩ : api_Order) == ⟨k', t', at'', ad', ch'⟩) = (decide (k = k') && (t == t') && (at' == at'') && decide (ad = ad') && (ch == ch')) := by
    rw [Bool.eq_iff_iff]
    simp [and_assoc]
  rw [e]
  by_cases h1 : k = k' <;> cases t == t' <;> cases at' == at'' <;> by_cases h4 : ad = ad' <;> simp [h1, h4]
theorem rd_texts {n : Int} : ∀ (k : Nat) (s : List Int), s.length ≤ k → (∀ x ∈ (rd n s).1, x.Text.length ≤ k) ∧ (rd n s).1.length ≤ s.length := by
  intro k
  induction k with
  | zero =>
    intro s h
    have : s = [] := List.eq_nil_of_length_eq_zero (by omega)
    subst this
    rw [rd_nil']; simp
  | succ k ih =>
    intro s h
    by_cases hs : s = []
    · subst hs; rw [rd_nil']; simp
    · rw [rd_cons hs]
      by_cases hg : (gS s n).2.2 = .nil
      · have hp := gS_pos hg
        have hl : (s.drop (gS s n).2.1).length = s.length - (gS s n).2.1 := List.length_drop ..
        have hpos : 0 < s.length := by cases s with | nil => exact absurd rfl hs | cons a b => simp
        obtain ⟨h1, h2⟩ := ih (s.drop (gS s n).2.1) (by omega)
        have ht := gS_text hg
        rw [if_pos hg]
        refine ⟨fun x hx => ?_, by simp only [List.length_cons]; omega⟩
        rcases List.mem_cons.1 hx with rfl | hx
        · omega
        · have := h1 x hx; omega
      · rw [if_neg hg]; simp
theorem readOf_texts {b : List Int} {n : Int} (hb : b.length ≤ 100000) : (readOf b n).1.Orders.length ≤ 100000 ∧ ∀ x ∈ (readOf b n).1.Orders, x.Text.length ≤ 100000 := by
  unfold readOf
  have Pz : ∀ e : GoErr, (zOut, e).1.Orders.length ≤ 100000 ∧ ∀ x ∈ (zOut, e).1.Orders, x.Text.length ≤ 100000 := by intro e; simp [zOut]
  refine ite_P (P := fun g : api_Out × GoErr => g.1.Orders.length ≤ 100000 ∧ ∀ x ∈ g.1.Orders, x.Text.length ≤ 100000) (Pz _) ?_
  cases b with
  | nil => exact Pz _
  | cons c r =>
    simp only
    refine ite_P (P := fun g : api_Out × GoErr => g.1.Orders.length ≤ 100000 ∧ ∀ x ∈ g.1.Orders, x.Text.length ≤ 100000) ?_ (Pz _)
    refine ite_P (P := fun g : api_Out × GoErr => g.1.Orders.length ≤ 100000 ∧ ∀ x ∈ g.1.Orders, x.Text.length ≤ 100000) ?_ (ite_P (P := fun g : api_Out × GoErr => g.1.Orders.length ≤ 100000 ∧ ∀ x ∈ g.1.Orders, x.Text.length ≤ 100000) (by simp) (Pz _))
    cases r with
    | nil => exact Pz _
    | cons x s =>
      simp only
      refine ite_P (P := fun g : api_Out × GoErr => g.1.Orders.length ≤ 100000 ∧ ∀ x ∈ g.1.Orders, x.Text.length ≤ 100000) ?_ (Pz _)
      refine ite_P (P := fun g : api_Out × GoErr => g.1.Orders.length ≤ 100000 ∧ ∀ x ∈ g.1.Orders, x.Text.length ≤ 100000) ?_ (Pz _)
      obtain ⟨h1, h2⟩ := rd_texts (n := n) s.length s (Nat.le_refl _)
      simp only [List.length_cons] at hb
      exact ⟨by simp only; omega, fun y hy => by have := h1 y hy; omega⟩
end Go.Proofs.YtjkbhpokboolpaaGreatDoor.Sx
