import Derived.Test.YtjkbhpokboolpaaGreatDoorPC
namespace Go.Proofs.YtjkbhpokboolpaaGreatDoor.Sx
open Go
theorem etaO (o : api_Order) : (⟨o.Kind, o.Text, o.Attr, o.Addr, o.Char⟩ : api_Order) = o := rfl
theorem at_cons {α : Type} [Inhabited α] {l : List α} {i : Int} (h0 : 0 ≤ i) (h1 : i < (l.length : Int)) : l.drop i.toNat = at_ l i :: l.drop (i + 1).toNat := by
  have hi : i.toNat < l.length := by omega
  rw [List.drop_eq_getElem_cons hi, at_eq (hi := hi)]
  congr 2; omega
theorem at_in {α : Type} [Inhabited α] {l : List α} {i : Int} (h0 : 0 ≤ i) (h1 : i < (l.length : Int)) : at_ l i ∈ l := by
  rw [at_eq (hi := by omega)]; exact List.getElem_mem _
def numW (w : api_Wcc) : Int := b2i w.Alarm 4 + b2i w.Unlock 2 + b2i w.Reset 1
def putW (w : api_Wcc) : Int := tab (numW w)
def zW : api_Wcc := ⟨false, false, false⟩
set_option maxRecDepth 100000 in
theorem wcc_facts (w : api_Wcc) : attr_PutWcc.m KK w = some (putW w) ∧ True ∧ True ∧ 0 ≤ putW w ∧ putW w ≤ 255 := by
  obtain ⟨a, u, r⟩ := w
  have h : ((attr_PutWcc.m KK ⟨a, u, r⟩ == some (putW ⟨a, u, r⟩)) && true && true && decide (0 ≤ putW ⟨a, u, r⟩) && decide (putW ⟨a, u, r⟩ ≤ 255)) = true := by
    cases a <;> cases u <;> cases r <;> kernel_rfl
  simp only [Bool.and_eq_true, beq_iff_eq, decide_eq_true_eq] at h
  exact ⟨h.1.1.1.1, h.1.1.1.2, h.1.1.2, h.1.2, h.2⟩
theorem wccb (a b : api_Wcc) : ((a.Alarm == b.Alarm) && ((a.Unlock == b.Unlock) && ((a.Reset == b.Reset) && true))) = (a == b) := by
  obtain ⟨x, y, z⟩ := a
  obtain ⟨x', y', z'⟩ := b
  rw [Bool.eq_iff_iff]; simp
theorem wccz (a : api_Wcc) : ((a.Alarm == false) && ((a.Unlock == false) && ((a.Reset == false) && true))) = (a == zW) := wccb a zW
def knownC (c : Int) : Bool := c == 241 || c == 245 || c == 111 || c == 242 || c == 246
def writesC (c : Int) : Bool := c == 241 || c == 245
theorem known_eq (c : Int) : stream_known.m c = some (knownC c) := by
  unfold stream_known.m knownC
  by_cases h1 : c = 241 <;> by_cases h2 : c = 245 <;> by_cases h3 : c = 111 <;> by_cases h4 : c = 242 <;> by_cases h5 : c = 246 <;> simp [h1, h2, h3, h4, h5]
theorem writes_eq (c : Int) : stream_Writes.m c = some (writesC c) := by
  unfold stream_Writes.m writesC
  by_cases h1 : c = 241 <;> simp [h1]
theorem known_u8 {c : Int} (h : knownC c = true) : 0 ≤ c ∧ c ≤ 255 := by
  unfold knownC at h
  simp only [Bool.or_eq_true, beq_iff_eq] at h
  omega
theorem sspot_eq (a : Int) (e : GoErr) : stream_spot.m a e = some (.spot a e) := rfl
def ordW (n : Int) : Bool → Int → List api_Order → Option (Int × Int)
  | _, _, [] => none
  | pv, i, o :: l => if wrongOf o n ≠ 0 then some (i, wrongOf o n) else if pv && (o.Kind == 1) then some (i, 1) else ordW n (o.Kind == 1) (i + 1) l
def flatO (l : List api_Order) (n : Int) : List Int := (l.map (fun o => putO o n)).flatten
def tot (l : List api_Order) : Nat := (l.map (fun o => o.Text.length + 4)).sum
def prevT (l : List api_Order) (i : Int) : Bool := decide (0 < i) && ((at_ l (i - 1)).Kind == 1)
theorem tot_cons (o : api_Order) (l : List api_Order) : tot (o :: l) = o.Text.length + 4 + tot l := by unfold tot; rw [List.map_cons, List.sum_cons]
theorem flatO_cons (o : api_Order) (l : List api_Order) (n : Int) : flatO (o :: l) n = putO o n ++ flatO l n := by unfold flatO; rw [List.map_cons, List.flatten_cons]
theorem flatO_le (l : List api_Order) (n : Int) : (flatO l n).length ≤ tot l := by
  induction l with
  | nil => exact Nat.le_refl 0
  | cons o l ih =>
    rw [flatO_cons, tot_cons, List.length_append]
    have := putO_le (o := o) (n := n)
    omega
theorem prevT_next {l : List api_Order} {i : Int} (h0 : 0 ≤ i) : prevT l (i + 1) = ((at_ l i).Kind == 1) := by
  unfold prevT
  rw [show i + 1 - 1 = i by omega]
  simp [show 0 < i + 1 by omega]
theorem orders_loop {l : List api_Order} {n : Int} (n1 : 1 ≤ n) (n2 : n ≤ 16383) (hx : ∀ o ∈ l, o.Text.length ≤ 100000) : ∀ (k : Nat) (i : Int) (acc : List Int), 0 ≤ i → i ≤ (l.length : Int) → (l.length : Int) - i < k → acc.length + tot (l.drop i.toNat) ≤ 600000 → l.length ≤ 100000 →
    stream_orders.l1.m KK l n k acc i = some (match ordW n (prevT l i) i (l.drop i.toNat) with | some (j, c) => .inl ([], .spot j (.no c)) | none => .inr (acc ++ flatO (l.drop i.toNat) n)) := by
  intro k
  induction k with
  | zero => intro i acc h0 h1 h2; omega
  | succ k ih =>
    intro i acc h0 h1 h2 h3 h4
    rw [stream_orders.l1.m]
    by_cases h5 : i < (l.length : Int)
    · have hm : (at_ l i).Text.length ≤ 100000 := hx _ (at_in h0 h5)
      have hd := at_cons h0 h5
      rw [hd] at h3 ⊢
      rw [tot_cons] at h3
      simp only [letJ, h5, h0, if_true, cond_true, etaO, oput_eq hm n1 n2, Option.bind_some, sspot_eq]
      unfold ordW
      by_cases hw : wrongOf (at_ l i) n = 0
      · have hle := putO_le (o := at_ l i) (n := n)
        have hnext : ∀ e : GoErr, e = .nil → (if e = .nil then (app acc (putO (at_ l i) n)).bind fun l118 => stream_orders.l1.m KK l n k l118 (w64 (i + 1)) else (some (GoErr.spot i e)).bind fun t131 => some (Sum.inl ([], t131))) =
            some (match ordW n ((at_ l i).Kind == 1) (i + 1) (l.drop (i + 1).toNat) with | some (j, c) => .inl ([], .spot j (.no c)) | none => .inr (acc ++ flatO (at_ l i :: l.drop (i + 1).toNat) n)) := by
          rintro e rfl
          rw [if_pos rfl, app_ok (by omega), Option.bind_some, w64_id (n := i + 1) (by omega) (by omega), ih (i + 1) _ (by omega) (by omega) (by omega) (by rw [List.length_append]; omega) h4, prevT_next h0, flatO_cons, List.append_assoc]
        simp only [hw, if_true, ne_eq, not_true_eq_false, if_false]
        unfold prevT
        by_cases hi : 0 < i
        · simp only [hi, if_true, decide_true, Bool.true_and, w64_id (n := i - 1) (by omega) (by omega), if_pos (show 0 ≤ i - 1 by omega), if_pos (show i - 1 < (l.length : Int) by omega), gt_iff_lt]
          by_cases hk : (at_ l i).Kind = 1
          · by_cases hk2 : (at_ l (i - 1)).Kind = 1
            · simp [hk, hk2]
            · have hb : ((at_ l (i - 1)).Kind == 1) = false := by simpa using hk2
              simp only [hk, hk2, if_true, if_false, hb, Bool.false_and, Bool.false_eq_true]
              have := hnext .nil rfl
              rw [hk] at this
              exact this
          · have hb : ((at_ l i).Kind == 1) = false := by simpa using hk
            simp only [hk, if_false, hb, Bool.and_false, Bool.false_eq_true]
            have := hnext .nil rfl
            rw [hb] at this
            exact this
        · simp only [hi, if_false, decide_false, Bool.false_and, Bool.false_eq_true, gt_iff_lt]
          exact hnext .nil rfl
      · simp [hw]
    · have : l.drop i.toNat = [] := List.drop_eq_nil_of_le (by omega)
      rw [this]
      simp [letJ, h5, ordW, flatO]
theorem orders_eq {l : List api_Order} {n : Int} (n1 : 1 ≤ n) (n2 : n ≤ 16383) (ht : tot l ≤ 600000) (hx : ∀ o ∈ l, o.Text.length ≤ 100000) (hl : l.length ≤ 100000) :
    stream_orders.m KK l n = some (match ordW n false 0 l with | some (j, c) => ([], .spot j (.no c)) | none => (flatO l n, .nil)) := by
  unfold stream_orders.m
  rw [orders_loop n1 n2 hx KK 0 [] (Int.le_refl _) (by omega) (by unfold KK; omega) (by simpa using ht) hl, Option.bind_some]
  simp only [Int.toNat_zero, List.drop_zero, List.nil_append, show prevT l 0 = false from rfl]
  cases ordW n false 0 l <;> rfl
def zOut : api_Out := ⟨0, zW, []⟩
def writeOf (o : api_Out) (n : Int) : List Int × GoErr :=
  if knownC o.Cmd then
    if writesC o.Cmd then
      match ordW n false 0 o.Orders with
      | some (j, c) => ([], .spot j (.no c))
      | none => if 2 + (flatO o.Orders n).length > 8192 then ([], .no 6) else (o.Cmd :: putW o.Wcc :: flatO o.Orders n, .nil)
    else if o.Wcc = zW ∧ o.Orders = [] then ([o.Cmd], .nil) else ([], .no 1)
  else ([], .no 5)
theorem swrite_eq {o : api_Out} {n : Int} (n1 : 1 ≤ n) (n2 : n ≤ 16383) (ht : tot o.Orders ≤ 600000) (hx : ∀ x ∈ o.Orders, x.Text.length ≤ 100000) (hl : o.Orders.length ≤ 100000) : stream_Write.m KK o n = some (writeOf o n) := by
  unfold stream_Write.m writeOf
  rw [known_eq, Option.bind_some]
  cases hk : knownC o.Cmd with
  | false => rfl
  | true =>
    have hu := known_u8 hk
    have h8 : IntKind.u8.wrap o.Cmd = o.Cmd := by rw [w8_mod]; omega
    simp only [cond_true, letJ, writes_eq, Option.bind_some, wccz, h8, if_true]
    cases hw : writesC o.Cmd with
    | true =>
      simp only [cond_true, cond_false, orders_eq n1 n2 ht hx hl, Option.bind_some, if_true]
      cases hq : ordW n false 0 o.Orders with
      | some q => simp
      | none =>
        have := flatO_le o.Orders n
        simp only [if_true, (wcc_facts o.Wcc).1, Option.bind_some]
        rw [app_ok (by simp), Option.bind_some, app_ok (by simp; omega), Option.bind_some]
        simp only [List.cons_append, List.nil_append, List.length_cons]
        by_cases h9 : 2 + (flatO o.Orders n).length > 8192
        · rw [if_pos (by omega), if_pos h9]
        · rw [if_neg (by omega), if_neg h9]
    | false =>
      simp only [cond_true, cond_false, Bool.false_eq_true, if_false]
      by_cases h1 : o.Wcc = zW
      · by_cases h2 : o.Orders = []
        · simp [h1, h2]
        · have h3 : (o.Orders.length : Int) > 0 := by
            cases ho : o.Orders with
            | nil => exact absurd ho h2
            | cons a b => simp
          simp [h1, h2, h3]
      · have hb : (o.Wcc == zW) = false := by simpa using h1
        simp [h1, hb]
theorem fewLoop {o : api_Out} : ∀ (k : Nat) (i : Int), 0 ≤ i → i ≤ 100 → 100 - i < k → ∃ q, shutterref08_Few.l1.m KK o k i = some q ∧
    (∀ u, q = .inr u → ∀ j : Int, i ≤ j → j < (o.Orders.length : Int) → j < 100 → (at_ o.Orders j).Text.length ≤ 9000) ∧ (∀ b, q = .inl b → b = false) := by
  intro k
  induction k with
  | zero => intro i h0 h1 h2; omega
  | succ k ih =>
    intro i h0 h1 h2
    rw [shutterref08_Few.l1.m]
    by_cases h3 : i < (o.Orders.length : Int)
    · rw [if_pos h3]
      by_cases h4 : i < 100
      · rw [if_pos h4, if_pos h0]
        by_cases h5 : ((at_ o.Orders i).Text.length : Int) > 9000
        · rw [if_pos h5]
          exact ⟨_, rfl, fun u e => (by cases e), fun b e => (by cases e; rfl)⟩
        · rw [if_neg h5, w64_id (n := i + 1) (by omega) (by omega)]
          obtain ⟨q, e1, e2, e3⟩ := ih (i + 1) (by omega) (by omega) (by omega)
          refine ⟨q, e1, fun u e j g0 g1 g2 => ?_, e3⟩
          by_cases hj : j = i
          · subst hj; omega
          · exact e2 u e j (by omega) g1 g2
      · rw [if_neg h4]
        exact ⟨_, rfl, fun u e j g0 g1 g2 => (by omega), fun b e => (by cases e)⟩
    · rw [if_neg h3]
      exact ⟨_, rfl, fun u e j g0 g1 g2 => (by omega), fun b e => (by cases e)⟩
structure FewO (o : api_Out) : Prop where
  n : o.Orders.length ≤ 1000
  t : ∀ x ∈ o.Orders, x.Text.length ≤ 9000
  s : tot o.Orders ≤ 600000
theorem few_tot {l : List api_Order} (hn : l.length ≤ 60) (ht : ∀ x ∈ l, x.Text.length ≤ 9000) : tot l ≤ 600000 := by
  have : ∀ l : List api_Order, (∀ x ∈ l, x.Text.length ≤ 9000) → Sx.tot l ≤ l.length * 9004 := by
    intro l
    induction l with
    | nil => intro _; exact Nat.le_refl _
    | cons x l ih =>
      intro h
      rw [tot_cons, List.length_cons, Nat.add_mul, Nat.one_mul]
      have := ih (fun y hy => h y (List.mem_cons_of_mem _ hy))
      have := h x (by simp)
      omega
  have h1 := this _ ht
  have h2 : l.length * 9004 ≤ 60 * 9004 := Nat.mul_le_mul_right _ hn
  omega
theorem FewO.tot {o : api_Out} (f : FewO o) : tot o.Orders ≤ 600000 := f.s
theorem few_eq (o : api_Out) : ∃ b, shutterref08_Few.m KK o = some b ∧ (b = true → FewO o) := by
  unfold shutterref08_Few.m
  obtain ⟨q, e1, e2, e3⟩ := fewLoop (o := o) KK 0 (Int.le_refl _) (by omega) (by unfold KK; omega)
  rw [e1, Option.bind_some]
  cases q with
  | inl b => exact ⟨b, rfl, fun h => by have := e3 b rfl; rw [this] at h; cases h⟩
  | inr u =>
    refine ⟨_, rfl, fun h => ?_⟩
    have hn : (o.Orders.length : Int) ≤ 60 := of_decide_eq_true h
    have hn60 : o.Orders.length ≤ 60 := by omega
    suffices ht9 : ∀ x ∈ o.Orders, x.Text.length ≤ 9000 from ⟨by omega, ht9, few_tot hn60 ht9⟩
    refine fun x hx => ?_
    obtain ⟨j, hj, rfl⟩ := List.getElem_of_mem hx
    have := e2 u rfl (j : Int) (by omega) (by omega) (by omega)
    rw [at_eq (hi := by simpa using hj)] at this
    simpa using this
theorem okOut {o : api_Out} (w : ok_api_Out o) : ∀ x ∈ o.Orders, (∀ y ∈ x.Text, Wf .u8 y) ∧ Wf .u8 x.Char := by
  intro x hx
  have := w.2.2.1 x hx
  exact ⟨this.2.1.1, this.2.2.2.2⟩
theorem writeOf_len {o : api_Out} {n : Int} : (writeOf o n).1.length ≤ 8192 := by
  unfold writeOf
  cases knownC o.Cmd with
  | false => simp
  | true =>
    cases writesC o.Cmd with
    | true =>
      simp only [if_true]
      cases ordW n false 0 o.Orders with
      | some q => simp
      | none =>
        simp only
        split
        · simp
        · simp only [List.length_cons]; omega
    | false =>
      simp only [if_true, Bool.false_eq_true, if_false]
      split <;> simp
end Go.Proofs.YtjkbhpokboolpaaGreatDoor.Sx
