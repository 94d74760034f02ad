import Derived.Test.YtjkbhpokboolpaaGreatDoorPH
namespace Go.Proofs.YtjkbhpokboolpaaGreatDoor.Sx
open Go
theorem rd_flat {n : Int} (n1 : 1 ≤ n) (n2 : n ≤ 16383) : ∀ (l : List api_Order) (pv : Bool) (i : Int), ordW n pv i l = none →
    rd n (flatO l n) = (l, (flatO l n).length, .nil) ∧ (pv = true → cnt (flatO l n) = 0) ∧ ∀ x ∈ l, RightO x n := by
  intro l
  induction l with
  | nil => intro pv i _; exact ⟨by unfold flatO; simp [rd_nil'], fun _ => rfl, by simp⟩
  | cons o l ih =>
    intro pv i h
    unfold ordW at h
    by_cases hw : wrongOf o n = 0
    · rw [if_neg (by simp [hw])] at h
      by_cases hp : (pv && (o.Kind == 1)) = true
      · rw [if_pos hp] at h; simp at h
      · rw [if_neg hp] at h
        have r := right_iff.1 hw
        obtain ⟨i1, i2, i3⟩ := ih _ _ h
        have g := gS_put r n1 n2 (flatO l n) (fun hk => i2 (by simp [hk]))
        have hpos := putO_pos r
        refine ⟨?_, ?_, ?_⟩
        · have hne : flatO (o :: l) n ≠ [] := by rw [flatO_cons]; intro e; have := congrArg List.length e; simp at this; simp [this.1] at hpos
          rw [rd_cons hne, flatO_cons, g]
          simp only [if_true, List.drop_left', i1, List.length_append]
        · intro hpv
          rw [flatO_cons]
          refine putO_head r ?_ _
          intro hk; apply hp; simp [hpv, hk]
        · intro x hx
          rcases List.mem_cons.1 hx with rfl | hx
          · exact r
          · exact i3 x hx
    · rw [if_pos hw] at h; simp at h
theorem got_text {s : List Int} {n : Int} {o : api_Order} {k : Nat} (g : GotO s n o k) (h : o.Kind = 1) : cnt s ≠ 0 := by
  have e := g.put
  have p : putO o n = o.Text := by unfold putO; rw [if_pos h]
  have hn := g.right.text.1 h
  have hc := g.right.chars
  rw [p] at e
  rw [e] at hn hc
  cases s with
  | nil => simp at hn
  | cons x r =>
    cases k with
    | zero => simp at hn
    | succ k =>
      simp only [List.take_succ_cons, List.all_cons, Bool.and_eq_true] at hc
      rw [cnt_cons, if_pos hc.1]
      omega
theorem got_len {s : List Int} {n : Int} {o : api_Order} {k : Nat} (g : GotO s n o k) : o.Text.length + 4 ≤ 5 * k := by
  have e := g.put
  have hp := g.pos
  have hl := g.le
  by_cases h : o.Kind = 1
  · have p : putO o n = o.Text := by unfold putO; rw [if_pos h]
    rw [p] at e
    rw [e, List.length_take]
    omega
  · have : o.Text = [] := by
      cases ht : o.Text with
      | nil => rfl
      | cons x y => exact absurd (g.right.text.2 (by simp [ht])) h
    rw [this]
    simp only [List.length_nil]
    omega
theorem rd_got {n : Int} (n1 : 1 ≤ n) (n2 : n ≤ 16383) : ∀ (m : Nat) (s : List Int), s.length ≤ m → (∀ y ∈ s, Wf .u8 y) → (rd n s).2.2 = .nil →
    flatO (rd n s).1 n = s ∧ tot (rd n s).1 ≤ 5 * s.length ∧ ∀ pv i, (pv = true → cnt s = 0) → ordW n pv i (rd n s).1 = none := by
  intro m
  induction m with
  | zero =>
    intro s hs _ _
    have : s = [] := List.eq_nil_of_length_eq_zero (by omega)
    subst this
    rw [rd_nil']
    exact ⟨rfl, by simp [tot], fun _ _ _ => rfl⟩
  | succ m ih =>
    intro s hs w h
    by_cases hn : s = []
    · subst hn
      rw [rd_nil']
      exact ⟨rfl, by simp [tot], fun _ _ _ => rfl⟩
    · rw [rd_cons hn] at h ⊢
      by_cases hg : (gS s n).2.2 = .nil
      · rw [if_pos hg] at h ⊢
        simp only at h ⊢
        have g := gS_get w n1 n2 hg
        have hp := g.pos; have hle := g.le
        obtain ⟨i1, i2, i3⟩ := ih (s.drop (gS s n).2.1) (by rw [List.length_drop]; omega) (fun y hy => w y (List.mem_of_mem_drop hy)) h
        refine ⟨?_, ?_, ?_⟩
        · rw [flatO_cons, i1, g.put, List.take_append_drop]
        · rw [tot_cons]
          have := got_len g
          rw [List.length_drop] at i2
          omega
        · intro pv i hpv
          unfold ordW
          rw [if_neg (by simp [right_iff.2 g.right]), if_neg]
          · refine i3 _ _ ?_
            intro hk
            exact g.last (by simpa using hk)
          · intro hb
            simp only [Bool.and_eq_true, beq_iff_eq] at hb
            exact got_text g hb.2 (hpv hb.1)
      · rw [if_neg hg] at h
        exact absurd h hg
theorem getW_put (w : api_Wcc) : getW (putW w) = (w, .nil) := (wcc_facts w).2.2.1
theorem readOf_write {o : api_Out} {n : Int} (n1 : 1 ≤ n) (n2 : n ≤ 16383) (h : (writeOf o n).2 = .nil) : readOf (writeOf o n).1 n = (o, .nil) := by
  have hl := writeOf_len (o := o) (n := n)
  obtain ⟨c, w, l⟩ := o
  unfold readOf
  rw [if_neg (by omega)]
  unfold writeOf at h ⊢
  simp only at h ⊢
  cases hk : knownC c with
  | false => rw [hk] at h; simp at h
  | true =>
    rw [hk] at h
    simp only [if_true] at h ⊢
    cases hc : writesC c with
    | false =>
      rw [hc] at h
      simp only [Bool.false_eq_true, if_false] at h ⊢
      by_cases hz : w = zW ∧ l = []
      · rw [if_pos hz]; simp only [hk, hc, if_true, Bool.false_eq_true, if_false, hz.1, hz.2]
      · rw [if_neg hz] at h; simp at h
    | true =>
      rw [hc] at h
      simp only [if_true] at h ⊢
      cases ho : ordW n false 0 l with
      | some q => rw [ho] at h; simp at h
      | none =>
        rw [ho] at h
        simp only at h ⊢
        by_cases hs : 2 + (flatO l n).length > 8192
        · rw [if_pos hs] at h; simp at h
        · rw [if_neg hs]
          simp only [hk, hc, if_true, getW_put, (rd_flat n1 n2 l false 0 ho).1]
theorem writeOf_read {b : List Int} {n : Int} (w : ∀ y ∈ b, Wf .u8 y) (n1 : 1 ≤ n) (n2 : n ≤ 16383) (h : (readOf b n).2 = .nil) : writeOf (readOf b n).1 n = (b, .nil) := by
  unfold readOf at h ⊢
  by_cases hl : (b.length : Int) > 8192
  · rw [if_pos hl] at h; simp at h
  rw [if_neg hl] at h ⊢
  cases b with
  | nil => simp at h
  | cons c r =>
    simp only at h ⊢
    cases hk : knownC c with
    | false => rw [hk] at h; simp at h
    | true =>
      rw [hk] at h
      simp only [if_true] at h ⊢
      cases hc : writesC c with
      | false =>
        rw [hc] at h
        simp only [Bool.false_eq_true, if_false] at h ⊢
        by_cases hr : r = []
        · rw [if_pos hr]; unfold writeOf; simp [hk, hc, hr]
        · rw [if_neg hr] at h; simp at h
      | true =>
        rw [hc] at h
        simp only [if_true] at h ⊢
        cases r with
        | nil => simp at h
        | cons x s =>
          simp only at h ⊢
          by_cases hx : (getW x).2 = .nil
          · rw [if_pos hx] at h ⊢
            by_cases hd : (rd n s).2.2 = .nil
            · rw [if_pos hd] at h ⊢
              obtain ⟨g1, g2, g3⟩ := rd_got n1 n2 s.length s (Nat.le_refl _) (fun y hy => w y (by simp [hy])) hd
              have hu := b_u8 (w x (by simp))
              have hp : putW (getW x).1 = x := by
                rcases (getW_facts hu.1 hu.2).2.2 with f | f
                · exact f.2
                · rw [hx] at f; simp at f
              unfold writeOf
              simp only [hk, hc, if_true, g3 false 0 (by simp), g1, hp]
              rw [if_neg]
              simp only [List.length_cons] at hl
              omega
            · rw [if_neg hd] at h; simp at h
          · rw [if_neg hx] at h; simp at h
theorem readOf_tot {b : List Int} {n : Int} (w : ∀ y ∈ b, Wf .u8 y) (n1 : 1 ≤ n) (n2 : n ≤ 16383) (hb : b.length ≤ 100000) : tot (readOf b n).1.Orders ≤ 600000 := by
  unfold readOf
  have Pz : ∀ e : GoErr, tot (zOut, e).1.Orders ≤ 600000 := by intro e; simp [zOut, tot]
  refine ite_P (P := fun g : api_Out × GoErr => tot g.1.Orders ≤ 600000) (Pz _) ?_
  cases b with
  | nil => exact Pz _
  | cons c r =>
    simp only
    refine ite_P (P := fun g : api_Out × GoErr => tot g.1.Orders ≤ 600000) ?_ (Pz _)
    refine ite_P (P := fun g : api_Out × GoErr => tot g.1.Orders ≤ 600000) ?_ ?_
    · cases r with
      | nil => exact Pz _
      | cons x s =>
        simp only
        refine ite_P (P := fun g : api_Out × GoErr => tot g.1.Orders ≤ 600000) ?_ (Pz _)
        by_cases hd : (rd n s).2.2 = .nil
        · rw [if_pos hd]
          have := (rd_got n1 n2 s.length s (Nat.le_refl _) (fun y hy => w y (by simp [hy])) hd).2.1
          simp only [List.length_cons] at hb ⊢
          omega
        · rw [if_neg hd]; exact Pz _
    · refine ite_P (P := fun g : api_Out × GoErr => tot g.1.Orders ≤ 600000) ?_ (Pz _)
      simp [tot]
theorem equalF_eq {l l' : List api_Order} (hn : l.length ≤ 100000) (ha : ∀ x ∈ l, x.Text.length ≤ 100000) : slices_EqualFunc_api_Order__order_Same.m KK l l' = some (l == l') := by
  unfold slices_EqualFunc_api_Order__order_Same.m
  have step : l.length = l'.length → ∀ (k : Nat) (i : Int), 0 ≤ i → i ≤ (l.length : Int) → (l.length : Int) - i < k →
      slices_EqualFunc_api_Order__order_Same.l1.m KK l l' k i = some (if l.drop i.toNat = l'.drop i.toNat then .inr () else .inl false) := by
    intro hl k
    induction k with
    | zero => intro i h0 h1 h2; omega
    | succ k ih =>
      intro i h0 h1 h2
      rw [slices_EqualFunc_api_Order__order_Same.l1.m]
      by_cases h3 : i < (l.length : Int)
      · simp only [letJ, h3, if_true, h0, cond_true, if_pos (show i < (l'.length : Int) by omega), etaO, sameO_eq (ha _ (at_in h0 h3)), Option.bind_some]
        rw [at_cons h0 h3, at_cons (l := l') h0 (by omega)]
        by_cases he : at_ l i = at_ l' i
        · rw [he, beq_self_eq_true, cond_true, w64_id (n := i + 1) (by omega) (by omega), ih (i + 1) (by omega) (by omega) (by omega)]
          simp only [List.cons.injEq, true_and]
        · have hb : (at_ l i == at_ l' i) = false := by simpa using he
          rw [hb, cond_false, if_neg (by simp [he])]
      · simp only [letJ, if_neg h3, cond_false]
        rw [if_pos]
        rw [List.drop_eq_nil_of_le (by omega), List.drop_eq_nil_of_le (by omega)]
  by_cases hl : l.length = l'.length
  · have hs := step hl KK 0 (by omega) (by omega) (by unfold KK; omega)
    rw [if_pos (by omega), hs, Option.bind_some]
    simp only [Int.toNat_zero, List.drop_zero]
    by_cases h : l = l'
    · rw [if_pos h]; simp [h]
    · rw [if_neg h]; simp [h]
  · rw [if_neg (by omega)]
    have : l ≠ l' := fun e => hl (by rw [e])
    simp [this]
theorem same_out {a b : api_Out} (hn : a.Orders.length ≤ 100000) (ha : ∀ x ∈ a.Orders, x.Text.length ≤ 100000) : stream_Same.m KK a b = some (a == b) := by
  unfold stream_Same.m
  rw [wccb, equalF_eq hn ha]
  obtain ⟨c, w, l⟩ := a
  obtain ⟨c', w', l'⟩ := b
  simp only
  have e : ((⟨c, w, l⟩ : api_Out) == ⟨c', w', l'⟩) = (decide (c = c') && (w == w') && (l == l')) := by
    rw [Bool.eq_iff_iff]
    simp [and_assoc]
  rw [e]
  by_cases h1 : c = c' <;> cases w == w' <;> cases l == l' <;> simp [h1]
theorem wf8 {x : Int} (h0 : 0 ≤ x) (h1 : x ≤ 255) : Wf .u8 x := by
  unfold Wf
  simp [Lit.wf, IntKind.min, IntKind.max, IntKind.signed, IntKind.bits]
  omega
theorem putO_u8 {o : api_Order} {n : Int} (n2 : n ≤ 16383) (r : RightO o n) (ht : ∀ y ∈ o.Text, Wf .u8 y) (hc : Wf .u8 o.Char) : ∀ y ∈ putO o n, Wf .u8 y := by
  have h1 := r.lo; have h2 := r.hi; have ra := r.attr; have rp := r.addr
  obtain ⟨k, t, a, ad, ch⟩ := o
  simp only at h1 h2 ra rp ht hc ⊢
  unfold putO
  rcases kinds (k := k) (by omega) (by omega) with rfl | rfl | rfl | rfl | rfl | rfl | rfl
  · simpa using ht
  · intro y hy
    simp at hy
    rcases hy with rfl | rfl
    · exact wf8 (by omega) (by omega)
    · exact wf8 (attr_facts (ra rfl)).2.2.2.1 (attr_facts (ra rfl)).2.2.2.2
  · obtain ⟨p1, p2⟩ := rp (by simp)
    intro y hy
    simp at hy
    rcases hy with rfl | hy
    · exact wf8 (by omega) (by omega)
    · exact put_u8 n2 p1 p2 y hy
  · intro y hy
    simp at hy
    subst hy
    exact wf8 (by omega) (by omega)
  · intro y hy
    simp at hy
    subst hy
    exact wf8 (by omega) (by omega)
  · obtain ⟨p1, p2⟩ := rp (by simp)
    intro y hy
    simp at hy
    rcases hy with rfl | hy | rfl
    · exact wf8 (by omega) (by omega)
    · exact put_u8 n2 p1 p2 y hy
    · exact hc
  · obtain ⟨p1, p2⟩ := rp (by simp)
    intro y hy
    simp at hy
    rcases hy with rfl | hy
    · exact wf8 (by omega) (by omega)
    · exact put_u8 n2 p1 p2 y hy
theorem writeOf_u8' {o : api_Out} {n : Int} (n1 : 1 ≤ n) (n2 : n ≤ 16383) (hu : ∀ x ∈ o.Orders, (∀ y ∈ x.Text, Wf .u8 y) ∧ Wf .u8 x.Char) : ∀ y ∈ (writeOf o n).1, Wf .u8 y := by
  obtain ⟨c, w, l⟩ := o
  unfold writeOf
  simp only at hu ⊢
  cases hk : knownC c with
  | false => simp
  | true =>
    have hc := known_u8 hk
    have hc8 := wf8 hc.1 hc.2
    simp only [if_true]
    split
    · split
      · simp
      · rename_i ho
        split
        · simp
        · intro y hy
          simp only [List.mem_cons] at hy
          rcases hy with rfl | rfl | hy
          · exact hc8
          · exact wf8 (wcc_facts w).2.2.2.1 (wcc_facts w).2.2.2.2
          · unfold flatO at hy
            simp only [List.mem_flatten, List.mem_map] at hy
            obtain ⟨q, ⟨x, hx, rfl⟩, hy⟩ := hy
            exact putO_u8 n2 ((rd_flat n1 n2 l false 0 ho).2.2 x hx) (hu x hx).1 (hu x hx).2 y hy
    · split
      · intro y hy; simp at hy; subst hy; exact hc8
      · simp
end Go.Proofs.YtjkbhpokboolpaaGreatDoor.Sx
