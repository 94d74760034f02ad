/- Plain facts: submissions: input.Read, the reference, comparisons; the laws of package input. -/
import Derived.Test.YtlomgckbmdjmhaaDoorPP
namespace Go.Proofs.YtlomgckbmdjmhaaDoor.Sx
open Go

theorem fields_eq {b : List Int} {n p : Int} (w : ∀ y ∈ b, Wf .u8 y) (n1 : 1 ≤ n) (n2 : n ≤ 16383) (hb : b.length ≤ 100000) (h0 : 0 ≤ p) (h1 : p ≤ (b.length : Int)) :
    ∃ p' e' acc', input_fields.m KK ⟨b, p, .nil⟩ n = some (acc', ⟨b, p', e'⟩) ∧
      (cntL (b.drop p.toNat) = 0 → ((fd n (b.drop p.toNat)).2.2 = .nil → e' = .nil ∧ acc' = (fd n (b.drop p.toNat)).1) ∧ ((fd n (b.drop p.toNat)).2.2 ≠ .nil → e' = .spot (p + ((fd n (b.drop p.toNat)).2.1 : Int)) (fd n (b.drop p.toNat)).2.2)) ∧
      (cntL (b.drop p.toNat) ≠ 0 → (cntL (b.drop p.toNat) < (b.drop p.toNat).length → e' = .spot (p + (cntL (b.drop p.toNat) : Int)) (.no 3)) ∧ (¬ cntL (b.drop p.toNat) < (b.drop p.toNat).length → e' = .nil ∧ acc' = [⟨-1, b.drop p.toNat⟩])) := by
  have ok : CurOk ⟨b, p, .nil⟩ := ⟨h0, h1, hb, w⟩
  have start : cntL (b.drop p.toNat) = 0 → ∃ p' e' acc', ((input_fields.l1.m KK n KK [] b p .nil).bind fun (x147, x153, x158, x159) => (some (x147, (⟨x153, x158, x159⟩ : bytes_Cursor)))) = some (acc', ⟨b, p', e'⟩) ∧
      ((fd n (b.drop p.toNat)).2.2 = .nil → e' = .nil ∧ acc' = (fd n (b.drop p.toNat)).1) ∧ ((fd n (b.drop p.toNat)).2.2 ≠ .nil → e' = .spot (p + ((fd n (b.drop p.toNat)).2.1 : Int)) (fd n (b.drop p.toNat)).2.2) := by
    intro _
    obtain ⟨p', e', acc', r1, r2, r3⟩ := fields_loop (n := n) w n1 n2 hb KK p [] h0 h1 (by unfold KK; omega) (by simp; omega) (.inl rfl)
    rw [r1]
    exact ⟨p', e', acc', rfl, by simpa using r2, r3⟩
  unfold input_fields.m
  simp only [letJ, peek_eq ok, Option.bind_some, true_and]
  by_cases hp : p < (b.length : Int)
  · have hd := drop_at h0 hp
    simp only [hp, if_true, cond_true, letter_eq, Option.bind_some]
    cases hc : ltr (at_ b p) with
    | false =>
      have hz : cntL (b.drop p.toNat) = 0 := by rw [hd, cntL_cons, hc]; rfl
      obtain ⟨p', e', acc', r1, r2⟩ := start hz
      exact ⟨p', e', acc', r1, fun _ => r2, fun h => absurd hz h⟩
    | true =>
      have hz : cntL (b.drop p.toNat) ≠ 0 := by rw [hd, cntL_cons, hc]; simp
      have okl := lettersC_ok ok
      simp only [cond_true, letters_eq ok, Option.bind_some]
      have e2 : lettersC ⟨b, p, .nil⟩ = ((b.drop p.toNat).takeWhile ltr, ⟨b, p + cntL (b.drop p.toNat), .nil⟩) := by unfold lettersC; simp only [if_true]
      rw [e2] at okl ⊢
      rw [app_ok (by simp), Option.bind_some]
      have q1 := okl.h1
      simp only at q1
      have hkk : KK = (KK - 1) + 1 := rfl
      simp only
      rw [hkk, input_fields.l1.m]
      simp only [left_eq okl, Option.bind_some]
      have hl : (b.drop p.toNat).length = b.length - p.toNat := List.length_drop ..
      by_cases hlt : (b.length : Int) - (p + (cntL (b.drop p.toNat) : Int)) > 0
      · have hlt' : p + (cntL (b.drop p.toNat) : Int) < (b.length : Int) := by omega
        simp only [hlt, if_true, err_eq, Option.bind_some, letJ, peek_eq okl, hlt', true_and, fail_eq]
        have hf : failC ⟨b, p + (cntL (b.drop p.toNat) : Int), .nil⟩ (.no 3) = ⟨b, p + (cntL (b.drop p.toNat) : Int), .spot (p + (cntL (b.drop p.toNat) : Int)) (.no 3)⟩ := by unfold failC; simp
        refine ⟨p + (cntL (b.drop p.toNat) : Int), .spot (p + (cntL (b.drop p.toNat) : Int)) (.no 3), [⟨-1, (b.drop p.toNat).takeWhile ltr⟩], ?_, fun h => absurd h hz, fun _ => ⟨fun _ => rfl, fun h => absurd (show cntL (b.drop p.toNat) < (b.drop p.toNat).length by omega) h⟩⟩
        by_cases hx : at_ b (p + (cntL (b.drop p.toNat) : Int)) = 17
        · simp only [hx, if_true]
          have hA : (at_ ([] ++ [(⟨-1, (b.drop p.toNat).takeWhile ltr⟩ : api_Entry)]) 0).Addr = -1 := rfl
          rw [if_pos (by simp), if_pos (by simp), hA, if_pos rfl, hf]
          rfl
        · simp only [hx, if_false, hf]
          rfl
      · simp only [hlt, if_false]
        refine ⟨_, .nil, _, rfl, fun h => absurd h hz, fun _ => ⟨fun h => by omega, fun _ => ⟨rfl, ?_⟩⟩⟩
        have hall := takeL (b.drop p.toNat)
        rw [List.take_of_length_le (by omega)] at hall
        rw [← hall]; rfl
  · have hp' : p = (b.length : Int) := by omega
    have hz : cntL (b.drop p.toNat) = 0 := by rw [drop_nil hp']; rfl
    simp only [hp, if_false, cond_false]
    obtain ⟨p', e', acc', r1, r2⟩ := start hz
    exact ⟨p', e', acc', r1, fun _ => r2, fun h => absurd hz h⟩

theorem flat_eq (e : GoErr) : input_flat.m e = some (flatOf e) := rfl
theorem fd_code {n : Int} : ∀ (m : Nat) (s : List Int), s.length ≤ m → (fd n s).2.2 = .nil ∨ ∃ k, code? (fd n s).2.2 = some k ∧ k ≠ 0 := by
  intro m
  induction m with
  | zero =>
    intro s hs
    have : s = [] := List.eq_nil_of_length_eq_zero (by omega)
    subst this
    exact .inl rfl
  | succ m ih =>
    intro s hs
    cases s with
    | nil => exact .inl rfl
    | cons x r =>
      rw [fd_cons]
      simp only [List.length_cons] at hs
      by_cases hx : x = 17
      · rw [if_pos hx]
        by_cases hg : (getOf r n).2 = .nil
        · rw [if_pos hg]
          exact ih _ (by rw [List.length_drop, List.length_drop]; omega)
        · rw [if_neg hg]
          have hc := getOf_code hg
          refine .inr ⟨codeOf (getOf r n).2, ?_, hc⟩
          unfold codeOf at hc ⊢
          cases h : code? (getOf r n).2 with
          | none => rw [h] at hc; exact absurd rfl hc
          | some k => rfl
      · rw [if_neg hx]; exact .inr ⟨3, rfl, by decide⟩
theorem flat_spot {a : Int} {e : GoErr} {k : Int} (h : code? e = some k) : flatOf (.spot a e) = .spot a (.no (codeOf e)) := by
  show (match code? e with | some n => GoErr.spot a (.no n) | none => GoErr.spot a e) = _
  unfold codeOf
  rw [h]; rfl

theorem read9_eq {b : List Int} {n : Int} (w : ∀ y ∈ b, Wf .u8 y) (n1 : 1 ≤ n) (n2 : n ≤ 16383) (hb : b.length ≤ 100000) : input_Read.m KK b n = some (readI b n) := by
  unfold input_Read.m readI
  by_cases hl : (b.length : Int) > 8192
  · simp only [hl, if_true, ispot_eq, Option.bind_some]; rfl
  have ok0 : CurOk ⟨b, 0, .nil⟩ := ⟨Int.le_refl _, by simp only; omega, hb, w⟩
  simp only [hl, if_false, new_eq hb, Option.bind_some, letJ]
  cases b with
  | nil =>
    have : bytes_Cursor_Byte.m ⟨[], 0, .nil⟩ = some (0, ⟨[], 0, .spot 0 (.no 2)⟩) := rfl
    rw [this]
    simp only [Option.bind_some, err_eq, reduceCtorEq, if_false, cond_true]
    rfl
  | cons c r =>
    have u := b_u8 (w c (by simp))
    have hlt : (0 : Int) < ((c :: r).length : Int) := by simp
    have ok1 : CurOk ⟨c :: r, 0 + 1, .nil⟩ := ⟨by simp only; omega, by simp only [List.length_cons]; omega, hb, w⟩
    simp only [byte_ok ok0 hlt, Option.bind_some, err_eq, if_true, cond_false, show at_ (c :: r) 0 = c from rfl, aid_eq, bare_eq, ispot_eq]
    cases ha : aidC c with
    | false => rfl
    | true =>
      simp only [cond_true, cond_false, if_true]
      cases hbr : bareC c with
      | true =>
        simp only [cond_true, if_true, left_eq ok1, Option.bind_some]
        cases r with
        | nil => rfl
        | cons x s =>
          rw [if_pos (by simp only [List.length_cons]; omega), if_neg (by simp)]
          rfl
      | false =>
        simp only [cond_false, Bool.false_eq_true, if_false, addr_eq ok1, Option.bind_some]
        have hd1 : List.drop (0 + 1 : Int).toNat (c :: r) = r := rfl
        by_cases hg : (getOf r n).2 = .nil
        · have h2 := getOf_good hg
          have e1 : addrC ⟨c :: r, 0 + 1, .nil⟩ n = ((getOf r n).1, ⟨c :: r, 0 + 1 + 2, .nil⟩) := by unfold addrC; simp only [if_true, hd1, hg]
          rw [e1, if_pos hg]
          have hd3 : List.drop (0 + 1 + 2 : Int).toNat (c :: r) = r.drop 2 := rfl
          obtain ⟨p', e', acc', r1, r2, r3⟩ := fields_eq (b := c :: r) (p := 0 + 1 + 2) w n1 n2 hb (by decide) (by simp only [List.length_cons]; omega)
          rw [hd3] at r2 r3
          simp only [r1, Option.bind_some, err_eq, flat_eq]
          by_cases hz : cntL (r.drop 2) = 0
          · rw [if_pos hz]
            obtain ⟨q1, q2⟩ := r2 hz
            by_cases hq : (fd n (r.drop 2)).2.2 = .nil
            · obtain ⟨rfl, rfl⟩ := q1 hq
              rw [if_pos hq, if_pos rfl]
            · have := q2 hq
              subst this
              rw [if_neg hq, if_neg (by simp)]
              rcases fd_code (n := n) (r.drop 2).length (r.drop 2) (Nat.le_refl _) with h | ⟨k, h, _⟩
              · exact absurd h hq
              · rw [flat_spot h]; rfl
          · rw [if_neg hz]
            obtain ⟨q1, q2⟩ := r3 hz
            by_cases hq : cntL (r.drop 2) < (r.drop 2).length
            · have := q1 hq
              subst this
              rw [if_pos hq, if_neg (by simp), flat_spot (k := 3) rfl]
              rfl
            · obtain ⟨rfl, rfl⟩ := q2 hq
              rw [if_neg hq, if_pos rfl]
        · have e1 : addrC ⟨c :: r, 0 + 1, .nil⟩ n = (0, ⟨c :: r, 0 + 1, .spot (0 + 1) (getOf r n).2⟩) := by unfold addrC; simp only [if_true, hd1, hg, if_false]
          rw [e1, if_neg hg]
          have hc := getOf_code hg
          have okx : CurOk ⟨c :: r, 0 + 1, .spot (0 + 1) (getOf r n).2⟩ := ⟨by simp only; omega, by simp only [List.length_cons]; omega, hb, w⟩
          have hfl : input_fields.m KK ⟨c :: r, 0 + 1, .spot (0 + 1) (getOf r n).2⟩ n = some ([], ⟨c :: r, 0 + 1, .spot (0 + 1) (getOf r n).2⟩) := by
            unfold input_fields.m
            have hkk : KK = (KK - 1) + 1 := rfl
            simp only [letJ, peek_eq okx, Option.bind_some, reduceCtorEq, false_and, if_false, cond_false]
            have hl1 : ∀ K, input_fields.l1.m K n KK [] (c :: r) (0 + 1) (.spot (0 + 1) (getOf r n).2) = some ([], c :: r, 0 + 1, .spot (0 + 1) (getOf r n).2) := by
              intro K
              rw [hkk, input_fields.l1.m]
              simp only [left_eq okx, Option.bind_some, err_eq, reduceCtorEq, if_false]
              split <;> rfl
            rw [hl1]; rfl
          simp only [hfl, Option.bind_some, err_eq, reduceCtorEq, if_false, flat_eq]
          have hk : code? (getOf r n).2 = some (codeOf (getOf r n).2) := by
            unfold codeOf at hc ⊢
            cases h : code? (getOf r n).2 with
            | none => rw [h] at hc; exact absurd rfl hc
            | some k => rfl
          rw [flat_spot hk]
          rfl

/-! ### The reference's Read -/
theorem refletter_eq {b : Int} (h : b ≤ 255) : shutterref09_Letter.m b = some (ltr b) := by
  unfold shutterref09_Letter.m ltr
  by_cases h0 : b = 0
  · subst h0; rfl
  · have e : (b != 0) = true := by simpa using h0
    rw [if_neg h0, refchar_eq h, e]; rfl
theorem refletters_loop {b : List Int} {p : Int} (w : ∀ y ∈ b, Wf .u8 y) (hb : b.length ≤ 100000) (h0 : 0 ≤ p) (hp : p ≤ (b.length : Int)) : ∀ (k : Nat) (i : Int), 0 ≤ i → p + i ≤ (b.length : Int) → (b.length : Int) - (p + i) < k →
    shutterref09_letters.l1.m KK b p k i = some (i + cntL (b.drop (p + i).toNat)) := by
  intro k
  induction k with
  | zero => intro i h0 h1 h2; omega
  | succ k ih =>
    intro i i0 h1 h2
    rw [shutterref09_letters.l1.m, w64_id (n := p + i) (by omega) (by omega)]
    by_cases hq : p + i < (b.length : Int)
    · have hm := at_u8 w (show 0 ≤ p + i by omega) hq
      rw [if_pos hq, if_pos (by omega), refletter_eq hm.2, Option.bind_some, drop_at (by omega) hq, cntL_cons]
      cases hc : ltr (at_ b (p + i)) with
      | false => simp
      | true =>
        simp only [cond_true, if_true]
        rw [w64_id (n := i + 1) (by omega) (by omega), ih (i + 1) (by omega) (by omega) (by omega), show p + (i + 1) = p + i + 1 by omega]
        congr 1; omega
    · have : b.drop (p + i).toNat = [] := List.drop_eq_nil_of_le (by omega)
      rw [if_neg hq, this]; simp [cntL]
theorem refletters_eq {b : List Int} {p : Int} (w : ∀ y ∈ b, Wf .u8 y) (hb : b.length ≤ 100000) (h0 : 0 ≤ p) (hp : p ≤ (b.length : Int)) : shutterref09_letters.m KK b p = some (cntL (b.drop p.toNat) : Int) := by
  unfold shutterref09_letters.m
  rw [refletters_loop w hb h0 hp KK 0 (by omega) (by omega) (by unfold KK; omega), Option.bind_some]
  simp
theorem refread_loop9 {b : List Int} {n : Int} (w : ∀ y ∈ b, Wf .u8 y) (hb : b.length ≤ 100000) (aid cur : Int) : ∀ (k : Nat) (p : Int) (acc : List api_Entry), 0 ≤ p → p ≤ (b.length : Int) → (b.length : Int) - p < k → (acc.length : Int) ≤ p →
    shutterref09_Read.l1.m KK b n k p aid cur acc = some (if (fd n (b.drop p.toNat)).2.2 = .nil then .inr (aid, cur, acc ++ (fd n (b.drop p.toNat)).1)
      else .inl (zIn, codeOf (fd n (b.drop p.toNat)).2.2, p + ((fd n (b.drop p.toNat)).2.1 : Int))) := by
  intro k
  induction k with
  | zero => intro p acc h0 h1 h2; omega
  | succ k ih =>
    intro p acc h0 h1 h2 h3
    rw [shutterref09_Read.l1.m]
    by_cases hp : p < (b.length : Int)
    · rw [drop_at h0 hp, fd_cons]
      simp only [hp, h0, if_true]
      by_cases hx : at_ b p = 17
      · simp only [hx, if_true]
        rw [w64_id (n := p + 1) (by omega) (by omega), w64_id (n := p + 3) (by omega) (by omega), if_pos (by omega), if_pos (by omega), sub_end, ref04 (fun y hy => w y (List.mem_of_mem_drop hy)), Option.bind_some]
        by_cases hg : (getOf (b.drop (p + 1).toNat) n).2 = .nil
        · have hgl := getOf_good hg
          rw [List.length_drop] at hgl
          have hc0 : codeOf (getOf (b.drop (p + 1).toNat) n).2 = 0 := by rw [hg]; rfl
          have hp3 : p + 3 ≤ (b.length : Int) := by omega
          have hd2 := drop3 (b := b) h0
          have hcl := cntL_le (b.drop (p + 3).toNat)
          rw [List.length_drop] at hcl
          have hcl2 : p + 3 + (cntL (b.drop (p + 3).toNat) : Int) ≤ (b.length : Int) := by omega
          have hcl3 : (0 : Int) ≤ (cntL (b.drop (p + 3).toNat) : Int) := by omega
          clear hcl
          simp only [hc0, if_true]
          simp only [hg, if_true]
          rw [refletters_eq w hb (by omega) hp3, Option.bind_some, w64_id (n := p + 3 + (cntL (b.drop (p + 3).toNat) : Int)) (by omega) (by omega), if_pos (by omega), if_pos (by omega), if_pos (by omega), sub_take (by omega), takeL, app_ok (by
            have : (List.takeWhile ltr (b.drop (p + 3).toNat)).length ≤ 100000 := by
              have : (List.takeWhile ltr (b.drop (p + 3).toNat)).length = cntL (b.drop (p + 3).toNat) := rfl
              omega
            simp only [List.length_nil]; omega), Option.bind_some, app_ok (by simp only [List.length_singleton]; omega), Option.bind_some, ih _ _ (by omega) (by omega) (by omega) (by simp only [List.length_append, List.length_singleton]; omega), hd2]
          have hd3 : b.drop (p + 3 + ((cntL (b.drop (p + 3).toNat) : Nat) : Int)).toNat = (b.drop (p + 3).toNat).drop (cntL (b.drop (p + 3).toNat)) := by rw [List.drop_drop]; congr 1; omega
          rw [hd3]
          by_cases hq : (fd n ((b.drop (p + 3).toNat).drop (cntL (b.drop (p + 3).toNat)))).2.2 = .nil
          · rw [if_pos hq, if_pos hq, List.append_assoc]; rfl
          · rw [if_neg hq, if_neg hq]
            congr 4
            omega
        · have hc := getOf_code hg
          simp only [hc, if_false, hg]
          rfl
      · simp only [hx, if_false]
        simp [codeOf, code?, zIn]
    · have hp' : p = (b.length : Int) := by omega
      rw [drop_nil hp', fd_nil]
      simp [hp]
theorem refread9_eq {b : List Int} {n : Int} (w : ∀ y ∈ b, Wf .u8 y) (hb : b.length ≤ 100000) : shutterref09_Read.m KK b n = some ((readI b n).1, codeOf (readI b n).2, whereOf (readI b n).2) := by
  unfold shutterref09_Read.m readI
  by_cases hl : (b.length : Int) > 8192
  · rw [if_pos hl, if_pos hl]; rfl
  rw [if_neg hl, if_neg hl]
  cases b with
  | nil => rfl
  | cons c r =>
    rw [if_neg (by simp only [List.length_cons]; omega), if_pos (by simp only [List.length_cons]; omega)]
    have hd1 : sub (c :: r) 1 ((c :: r).length : Int) = r := by rw [sub_end]; rfl
    have wr : ∀ y ∈ r, Wf .u8 y := fun y hy => w y (by simp [hy])
    simp only [letJ, show at_ (c :: r) 0 = c from rfl, refaid_eq, refbare_eq, Option.bind_some]
    cases ha : aidC c with
    | false => rfl
    | true =>
      simp only [cond_true, if_true]
      cases hbr : bareC c with
      | true =>
        simp only [cond_true, if_true]
        cases r with
        | nil => rfl
        | cons x s =>
          rw [if_pos (by simp only [List.length_cons]; omega), if_neg (by simp)]
          rfl
      | false =>
        simp only [cond_false, Bool.false_eq_true, if_false]
        rw [if_pos (by simp only [List.length_cons]; omega), hd1, ref04 wr, Option.bind_some]
        by_cases hg : (getOf r n).2 = .nil
        · have h2 := getOf_good hg
          have hc0 : codeOf (getOf r n).2 = 0 := by rw [hg]; rfl
          have h3 : (3 : Int) ≤ ((c :: r).length : Int) := by simp only [List.length_cons]; omega
          have hd3 : List.drop (3 : Int).toNat (c :: r) = r.drop 2 := rfl
          simp only [hc0, if_true]
          simp only [hg, if_true]
          rw [refletters_eq w hb (by decide) h3, Option.bind_some, hd3]
          have hcl := cntL_le (r.drop 2)
          rw [List.length_drop] at hcl
          simp only [List.length_cons] at hl h3 hb ⊢
          by_cases hz : cntL (r.drop 2) = 0
          · rw [if_pos hz, if_neg (by omega), refread_loop9 w (by simpa using hb) c (getOf r n).1 KK 3 [] (by decide) (by simp only [List.length_cons]; omega) (by unfold KK; simp only [List.length_cons]; omega) (by simp), hd3]
            by_cases hq : (fd n (r.drop 2)).2.2 = .nil
            · rw [if_pos hq, if_pos hq]; rfl
            · rw [if_neg hq, if_neg hq]; rfl
          · rw [if_neg hz, if_pos (by omega), w64_id (by omega) (by omega)]
            by_cases hq : cntL (r.drop 2) < (r.drop 2).length
            · rw [if_pos hq, if_pos (by rw [List.length_drop] at hq; omega)]; rfl
            · rw [if_neg hq, if_neg (by rw [List.length_drop] at hq; omega), if_pos (by omega)]
              have hs3 : sub (c :: r) 3 ((c :: r).length : Int) = r.drop 2 := by rw [sub_end]; rfl
              have hs3' : sub (c :: r) 3 ((r.length + 1 : Nat) : Int) = r.drop 2 := hs3
              rw [hs3', app_ok (by simp only [List.length_nil, List.length_drop]; omega)]
              rfl
        · have hc := getOf_code hg
          simp only [hc, if_false, hg]
          rfl

/-! ### Alike? -/
theorem equal_eq9 {a b : List Int} (ha : a.length ≤ 100000) : slices_Equal_bytes.m KK a b = some (a == b) := by
  unfold slices_Equal_bytes.m
  by_cases hl : (a.length : Int) = (b.length : Int)
  · rw [if_pos hl]
    have step : ∀ (k : Nat) (i : Int), 0 ≤ i → i ≤ (a.length : Int) → (a.length : Int) - i < k →
        slices_Equal_bytes.l1.m KK a b k i = some (if a.drop i.toNat = b.drop i.toNat then .inr () else .inl false) := by
      intro k
      induction k with
      | zero => intro i h0 h1 h2; omega
      | succ k ih =>
        intro i h0 h1 h2
        rw [slices_Equal_bytes.l1.m]
        simp only [letJ]
        by_cases h3 : i < (a.length : Int)
        · rw [if_pos h3, cond_true, if_pos h0, if_pos h3, if_pos (by omega), drop_at h0 h3, drop_at (l := b) h0 (by omega)]
          by_cases he : at_ a i = at_ b i
          · rw [if_pos he, w64_id (n := i + 1) (by omega) (by omega), ih (i + 1) (by omega) (by omega) (by omega), he]
            simp only [List.cons.injEq, true_and]
          · rw [if_neg he, if_neg (by simp [he])]
        · rw [if_neg h3, cond_false, if_pos]
          rw [List.drop_eq_nil_of_le (by omega), List.drop_eq_nil_of_le (by omega)]
    rw [step KK 0 (by omega) (by omega) (by unfold KK; omega), Option.bind_some]
    simp only [Int.toNat_zero, List.drop_zero]
    by_cases h : a = b
    · rw [if_pos h]; simp [h]
    · rw [if_neg h]; simp [h]
  · rw [if_neg hl]
    have : a ≠ b := fun e => hl (by rw [e])
    simp [this]
theorem sameE_eq {a b : api_Entry} (ha : a.Text.length ≤ 100000) : input_Same_1.m KK a b = some (a == b) := by
  unfold input_Same_1.m
  obtain ⟨x, t⟩ := a
  obtain ⟨y, u⟩ := b
  simp only at ha ⊢
  rw [equal_eq9 ha, Option.bind_some]
  have e : ((⟨x, t⟩ : api_Entry) == ⟨y, u⟩) = (decide (x = y) && (t == u)) := by rw [Bool.eq_iff_iff]; simp
  rw [e]
  by_cases h : x = y <;> simp [h]
theorem sameI_eq {a b : api_In} (hl : a.Fields.length ≤ 100000) (ha : ∀ f ∈ a.Fields, f.Text.length ≤ 100000) : input_Same.m KK a b = some (a == b) := by
  have hE : slices_EqualFunc_api_Entry__input_Same_1.m KK a.Fields b.Fields = some (a.Fields == b.Fields) := by
    unfold slices_EqualFunc_api_Entry__input_Same_1.m
    generalize a.Fields = l at *
    generalize b.Fields = l'
    by_cases he : (l.length : Int) = (l'.length : Int)
    · rw [if_pos he]
      have step : ∀ (k : Nat) (i : Int), 0 ≤ i → i ≤ (l.length : Int) → (l.length : Int) - i < k →
          slices_EqualFunc_api_Entry__input_Same_1.l1.m KK l l' k i = some (if l.drop i.toNat = l'.drop i.toNat then .inr () else .inl false) := by
        intro k
        induction k with
        | zero => intro i h0 h1 h2; omega
        | succ k ih =>
          intro i h0 h1 h2
          rw [slices_EqualFunc_api_Entry__input_Same_1.l1.m]
          by_cases h3 : i < (l.length : Int)
          · have hm : at_ l i ∈ l := by rw [at_eq (hi := by omega)]; exact List.getElem_mem _
            have hd : l.drop i.toNat = at_ l i :: l.drop (i + 1).toNat := by rw [List.drop_eq_getElem_cons (by omega), at_eq (hi := by omega)]; congr 2; omega
            have hd' : l'.drop i.toNat = at_ l' i :: l'.drop (i + 1).toNat := by rw [List.drop_eq_getElem_cons (by omega), at_eq (hi := by omega)]; congr 2; omega
            simp only [letJ, h3, if_true, cond_true, h0]
            rw [if_pos (by omega), sameE_eq (ha _ hm), Option.bind_some, hd, hd']
            by_cases hq : at_ l i = at_ l' i
            · have : (at_ l i == at_ l' i) = true := by simpa using hq
              rw [this, cond_true, w64_id (n := i + 1) (by omega) (by omega), ih (i + 1) (by omega) (by omega) (by omega), hq]
              simp only [List.cons.injEq, true_and]
            · have : (at_ l i == at_ l' i) = false := by simpa using hq
              rw [this, cond_false, if_neg (by simp [hq])]
          · simp only [letJ, h3, if_false, cond_false]
            rw [List.drop_eq_nil_of_le (by omega), List.drop_eq_nil_of_le (by omega), if_pos rfl]
      rw [step KK 0 (by omega) (by omega) (by unfold KK; omega), Option.bind_some]
      simp only [Int.toNat_zero, List.drop_zero]
      by_cases h : l = l'
      · rw [if_pos h]; simp [h]
      · rw [if_neg h]; simp [h]
    · rw [if_neg he]
      have : l ≠ l' := fun e => he (by rw [e])
      simp [this]
  unfold input_Same.m
  obtain ⟨x, c, l⟩ := a
  obtain ⟨y, d, m⟩ := b
  simp only at hE ⊢
  rw [hE, Option.bind_some]
  have e : ((⟨x, c, l⟩ : api_In) == ⟨y, d, m⟩) = (decide (x = y) && (decide (c = d) && (l == m))) := by rw [Bool.eq_iff_iff]; simp
  rw [e]
  by_cases h1 : x = y <;> by_cases h2 : c = d <;> simp [h1, h2]
theorem refsameI_eq {a b : api_In} (hl : a.Fields.length ≤ 100000) (ha : ∀ f ∈ a.Fields, f.Text.length ≤ 100000) : shutterref09_Same.m KK a b = some (a == b) := by
  have step : (a.Fields.length : Int) = (b.Fields.length : Int) → ∀ (k : Nat) (i : Int), 0 ≤ i → i ≤ (a.Fields.length : Int) → (a.Fields.length : Int) - i < k →
      shutterref09_Same.l1.m KK a b k i = some (if a.Fields.drop i.toNat = b.Fields.drop i.toNat then .inr () else .inl false) := by
    intro he k
    induction k with
    | zero => intro i h0 h1 h2; omega
    | succ k ih =>
      intro i h0 h1 h2
      rw [shutterref09_Same.l1.m]
      by_cases h3 : i < (a.Fields.length : Int)
      · have hm : at_ a.Fields i ∈ a.Fields := by rw [at_eq (hi := by omega)]; exact List.getElem_mem _
        have hd : a.Fields.drop i.toNat = at_ a.Fields i :: a.Fields.drop (i + 1).toNat := by rw [List.drop_eq_getElem_cons (by omega), at_eq (hi := by omega)]; congr 2; omega
        have hd' : b.Fields.drop i.toNat = at_ b.Fields i :: b.Fields.drop (i + 1).toNat := by rw [List.drop_eq_getElem_cons (by omega), at_eq (hi := by omega)]; congr 2; omega
        rw [if_pos h3, if_pos h0, if_pos (by omega), same_eq (ha _ hm), Option.bind_some, hd, hd']
        obtain ⟨x, t⟩ := at_ a.Fields i
        obtain ⟨y, u⟩ := at_ b.Fields i
        simp only
        by_cases hx : x = y
        · rw [if_pos hx]
          by_cases hq : t = u
          · have : (t == u) = true := by simpa using hq
            rw [this, cond_true, w64_id (n := i + 1) (by omega) (by omega), ih (i + 1) (by omega) (by omega) (by omega), hq, hx]
            simp only [List.cons.injEq, true_and]
          · have : (t == u) = false := by simpa using hq
            rw [this, cond_false, if_neg (by simp [hq])]
        · rw [if_neg hx, if_neg (by simp [hx])]
      · rw [if_neg h3, List.drop_eq_nil_of_le (by omega), List.drop_eq_nil_of_le (by omega), if_pos rfl]
  unfold shutterref09_Same.m
  by_cases h1 : a.Aid = b.Aid
  · rw [if_pos h1]
    by_cases h2 : a.Cursor = b.Cursor
    · rw [if_pos h2]
      by_cases he : (a.Fields.length : Int) = (b.Fields.length : Int)
      · rw [if_pos he, step he KK 0 (by omega) (by omega) (by unfold KK; omega), Option.bind_some]
        simp only [Int.toNat_zero, List.drop_zero]
        obtain ⟨x, c, l⟩ := a
        obtain ⟨y, d, m⟩ := b
        simp only at h1 h2 ⊢
        by_cases h : l = m
        · rw [if_pos h]; simp [h, h1, h2]
        · rw [if_neg h]; simp [h]
      · rw [if_neg he]
        have : a ≠ b := fun e => he (by rw [e])
        simp [this]
    · rw [if_neg h2]
      have : a ≠ b := fun e => h2 (by rw [e])
      simp [this]
  · rw [if_neg h1]
    have : a ≠ b := fun e => h1 (by rw [e])
    simp [this]

/-! ### The laws -/
set_option maxRecDepth 100000 in
theorem awake09 : shutterlaw09_awake.m KK = some true := by kernel_rfl
theorem size09 {x : Int} (h : Wf .u16 x) : shutterlaw09_size.m x = some (1 + x % 16383) := by unfold shutterlaw09_size.m; rw [size_eq h]
theorem sizes {x : Int} (h : Wf .u16 x) : 1 ≤ 1 + x % 16383 ∧ 1 + x % 16383 ≤ 16383 := by have := b_u16 h; omega
structure FewI (o : api_In) : Prop where
  len : o.Fields.length ≤ 60
  text : ∀ f ∈ o.Fields, f.Text.length ≤ 9000
theorem few_loop9 {o : api_In} : ∀ (k : Nat) (i : Int), 0 ≤ i → i ≤ 100 → 100 - i < k → ∃ q, shutterref09_Few.l1.m KK o k i = some q ∧
    (q = .inr () → ∀ j : Int, i ≤ j → j < (o.Fields.length : Int) → j < 100 → (at_ o.Fields j).Text.length ≤ 9000) ∧ (q = .inr () ∨ q = .inl false) := by
  intro k
  induction k with
  | zero => intro i h0 h1 h2; omega
  | succ k ih =>
    intro i h0 h1 h2
    rw [shutterref09_Few.l1.m]
    by_cases h3 : i < (o.Fields.length : Int)
    · by_cases h4 : i < 100
      · by_cases h5 : (((at_ o.Fields i).Text).length : Int) > 9000
        · rw [if_pos h3, if_pos h4, if_pos h0, if_pos h5]
          exact ⟨_, rfl, fun h => by simp at h, .inr rfl⟩
        · rw [if_pos h3, if_pos h4, if_pos h0, if_neg h5, w64_id (n := i + 1) (by omega) (by omega)]
          obtain ⟨q, q1, q2, q3⟩ := ih (i + 1) (by omega) (by omega) (by omega)
          refine ⟨q, q1, fun h j j0 j1 j2 => ?_, q3⟩
          by_cases hj : j = i
          · subst hj; omega
          · exact q2 h j (by omega) j1 j2
      · rw [if_pos h3, if_neg h4]
        exact ⟨_, rfl, fun _ j j0 j1 j2 => by omega, .inl rfl⟩
    · rw [if_neg h3]
      exact ⟨_, rfl, fun _ j j0 j1 j2 => by omega, .inl rfl⟩
theorem few9_eq (o : api_In) : ∃ b, shutterref09_Few.m KK o = some b ∧ (b = true → FewI o) := by
  unfold shutterref09_Few.m
  obtain ⟨q, q1, q2, q3⟩ := few_loop9 (o := o) KK 0 (by omega) (by omega) (by unfold KK; omega)
  rw [q1, Option.bind_some]
  rcases q3 with rfl | rfl
  · refine ⟨_, rfl, fun h => ?_⟩
    have hl : (o.Fields.length : Int) ≤ 60 := by simpa using h
    refine ⟨by omega, fun f hf => ?_⟩
    obtain ⟨i, hi, rfl⟩ := List.getElem_of_mem hf
    have := q2 rfl (i : Int) (by omega) (by omega) (by omega)
    rw [at_eq (hi := by omega)] at this
    exact this
  · exact ⟨_, rfl, fun h => by simp at h⟩
theorem FewI.write {o : api_In} {n : Int} (f : FewI o) (n1 : 1 ≤ n) (n2 : n ≤ 16383) : input_Write.m KK o n = some (writeI o n) :=
  write9_eq n1 n2 (by have := f.len; omega) (fun x hx => by have := f.text x hx; omega) (by have := flatF_le (n := n) o.Fields f.text; have := f.len; omega)
theorem zin_eq : (⟨0, 0, []⟩ : api_In) = zIn := rfl

theorem InputReads_true (x0 : List Int) (x1 : Int) (w0 : ∀ y ∈ x0, Wf .u8 y) (_ : x0.length ≤ maxLen) (w1 : Wf .u16 x1) : shutterlaw09_InputReads.m KK x0 x1 = some true := by
  unfold shutterlaw09_InputReads.m
  simp only [awake09, Option.bind_some, cond_true]
  by_cases h : (x0.length : Int) > 9000
  · rw [if_pos h]
  obtain ⟨n1, n2⟩ := sizes w1
  obtain ⟨t1, t2⟩ := readI_texts (n := 1 + x1 % 16383) w0 n1 n2 (by omega)
  rw [if_neg h, size09 w1, Option.bind_some, read9_eq w0 n1 n2 (by omega), Option.bind_some, Option.bind_some, refread9_eq w0 (by omega), Option.bind_some, refsameI_eq t1 t2, Option.bind_some]
  simp [api_Code.m, api_Where.m]

theorem readI_ok {b : List Int} {n : Int} (w : ∀ y ∈ b, Wf .u8 y) (n1 : 1 ≤ n) (n2 : n ≤ 16383) (hb : b.length ≤ 100000) (h : (readI b n).2 = .nil) : input_Write.m KK (readI b n).1 n = some (b, .nil) := by
  obtain ⟨t1, t2⟩ := readI_texts (n := n) w n1 n2 hb
  have hw := (writeI_read w n1 n2 h).1
  have hf : (flatF (readI b n).1.Fields n).length ≤ 800000 := by
    have hl := writeI_len (o := (readI b n).1) (n := n)
    unfold writeI at hw
    split at hw
    · split at hw
      · rename_i he hbr
        unfold errI at he
        rw [if_pos hbr] at he
        split at he
        · split at he
          · simp at he
          · rename_i hz
            simp only [not_or, Decidable.not_not] at hz
            rw [hz.2]; simp [flatF]
        · simp at he
      · split at hw
        · simp at hw
        · omega
    · rename_i he
      simp only [Prod.mk.injEq] at hw
      exact absurd hw.2 he
  rw [write9_eq n1 n2 t1 t2 hf, hw]
theorem wf8 {x : Int} (h0 : 0 ≤ x) (h1 : x ≤ 255) : Wf .u8 x := by
  unfold Wf
  simp [Lit.wf, IntKind.min, IntKind.max, IntKind.signed, IntKind.bits]
  omega
theorem writeI_u8 {o : api_In} {n : Int} (n1 : 1 ≤ n) (n2 : n ≤ 16383) (ha : Wf .u8 o.Aid) (hu : ∀ f ∈ o.Fields, ∀ y ∈ f.Text, Wf .u8 y) (h : (writeI o n).2 = .nil) : ∀ y ∈ (writeI o n).1, Wf .u8 y := by
  unfold writeI at h ⊢
  by_cases he : errI o n = .nil
  · rw [if_pos he] at h ⊢
    unfold errI at he
    cases haa : aidC o.Aid with
    | false => rw [haa] at he; simp at he
    | true =>
      rw [haa] at he
      simp only [if_true] at he
      cases hb : bareC o.Aid with
      | true => intro y hy; simp at hy; subst hy; exact ha
      | false =>
        rw [hb] at h he
        simp only [Bool.false_eq_true, if_false] at h he ⊢
        by_cases hc : o.Cursor < 0 ∨ o.Cursor ≥ n
        · rw [if_pos hc] at he; simp at he
        rw [if_neg hc] at he
        by_cases hl : 3 + (flatF o.Fields n).length > 8192
        · rw [if_pos hl] at h; simp at h
        rw [if_neg hl]
        have hfw : fW n (o.Fields.length == 1) 0 o.Fields = none := by
          cases hx : fW n (o.Fields.length == 1) 0 o.Fields with
          | none => rfl
          | some q => rw [hx] at he; simp at he
        have hr : ∀ f ∈ o.Fields, f.Addr = -1 ∨ (0 ≤ f.Addr ∧ f.Addr < n) := by
          intro f hf
          rcases fields_right hfw with ⟨t, e, _, _⟩ | r
          · rw [e] at hf; simp at hf; subst hf; exact .inl rfl
          · exact .inr ⟨(r f hf).lo, (r f hf).hi⟩
        have hflat : ∀ l : List api_Entry, (∀ f ∈ l, f.Addr = -1 ∨ (0 ≤ f.Addr ∧ f.Addr < n)) → (∀ f ∈ l, ∀ y ∈ f.Text, Wf .u8 y) → ∀ y ∈ flatF l n, Wf .u8 y := by
          intro l
          induction l with
          | nil => intro _ _ y hy; simp [flatF] at hy
          | cons f l ih =>
            intro h1 h2 y hy
            rw [flatF_cons] at hy
            rcases List.mem_append.1 hy with hy | hy
            · unfold putF at hy
              rcases List.mem_append.1 hy with hy | hy
              · split at hy
                · simp at hy
                · rename_i hna
                  have hq := (h1 f (by simp)).resolve_left hna
                  rcases List.mem_cons.1 hy with rfl | hy
                  · exact wf8 (by decide) (by decide)
                  · exact put_u8 n2 hq.1 hq.2 y hy
              · exact h2 f (by simp) y hy
            · exact ih (fun f hf => h1 f (by simp [hf])) (fun f hf => h2 f (by simp [hf])) y hy
        intro y hy
        rcases List.mem_cons.1 hy with rfl | hy
        · exact ha
        · rcases List.mem_append.1 hy with hy | hy
          · exact put_u8 n2 (by omega) (by omega) y hy
          · exact hflat _ hr hu y hy
  · rw [if_neg he] at h; exact absurd h he
theorem okIn {o : api_In} (w : ok_api_In o) : Wf .u8 o.Aid ∧ ∀ f ∈ o.Fields, ∀ y ∈ f.Text, Wf .u8 y :=
  ⟨w.1, fun f hf => (w.2.2.1 f hf).2.1⟩

theorem InputBack_true (x0 : api_In) (x1 : List Int) (x2 : Int) (w0 : ok_api_In x0) (w1 : ∀ y ∈ x1, Wf .u8 y) (_ : x1.length ≤ maxLen) (w2 : Wf .u16 x2) : shutterlaw09_InputBack.m KK x0 x1 x2 = some true := by
  unfold shutterlaw09_InputBack.m
  simp only [awake09, Option.bind_some, cond_true]
  obtain ⟨b, hb, hf⟩ := few9_eq x0
  rw [hb, Option.bind_some]
  cases b with
  | false => rfl
  | true =>
    have hf := hf rfl
    rw [cond_true]
    by_cases h : (x1.length : Int) > 9000
    · rw [if_pos h]
    obtain ⟨n1, n2⟩ := sizes w2
    obtain ⟨wa, wt⟩ := okIn w0
    rw [if_neg h]
    simp only [size09 w2, Option.bind_some, hf.write n1 n2, letJ]
    have second : ((input_Read.m KK x1 (1 + x2 % 16383)).bind fun t171 => (if t171.2 = GoErr.nil then ((input_Write.m KK t171.1 (1 + x2 % 16383)).bind fun t253 => (if t253.2 = GoErr.nil then ((shutterref01_Same.m KK t253.1 x1).bind fun t277 => bif t277 then ((input_Right.m KK t171.1 (1 + x2 % 16383)).bind fun t291 => (if t291 = GoErr.nil then (some true) else (some false))) else (some false)) else (some false))) else ((input_Same.m KK t171.1 (⟨0, 0, []⟩ : api_In)).bind fun t220 => bif t220 then ((api_Where.m t171.2).bind fun t229 => (if t229 ≥ 0 then ((api_Where.m t171.2).bind fun t239 => (some (decide (t239 ≤ (x1.length : Int))))) else (some false))) else (some false)))) = some true := by
      obtain ⟨t1, t2⟩ := readI_texts (n := 1 + x2 % 16383) w1 n1 n2 (by omega)
      rw [read9_eq w1 n1 n2 (by omega), Option.bind_some]
      by_cases he : (readI x1 (1 + x2 % 16383)).2 = .nil
      · rw [if_pos he, readI_ok w1 n1 n2 (by omega) he, Option.bind_some, if_pos rfl, same_eq (show x1.length ≤ 100000 by omega), Option.bind_some, right9_eq t1 t2]
        simp [(writeI_read w1 n1 n2 he).2]
      · rw [if_neg he, sameI_eq t1 t2, Option.bind_some, readI_bad he]
        obtain ⟨a, k, e, a0, a1⟩ := readI_where he
        rw [e]
        simp [zin_eq, api_Where.m, whereOf, a0, a1]
    by_cases he : (writeI x0 (1 + x2 % 16383)).2 = .nil
    · have hu := writeI_u8 n1 n2 wa wt he
      have hl := writeI_len (o := x0) (n := 1 + x2 % 16383)
      have hs : x0.Fields.length ≤ 100000 := by have := hf.len; omega
      have ht : ∀ f ∈ x0.Fields, f.Text.length ≤ 100000 := fun f hx => by have := hf.text f hx; omega
      simp only [he, if_true, cond_true]
      rw [read9_eq hu n1 n2 (by omega), Option.bind_some, readI_write n1 n2 he]
      simp only [if_true, sameI_eq hs ht, refsameI_eq hs ht, Option.bind_some, beq_self_eq_true, cond_true]
      exact second
    · simp only [he, if_false, cond_false]
      exact second

theorem InputApart_true (x0 : api_In) (x1 : api_In) (x2 : Int) (_ : ok_api_In x0) (_ : ok_api_In x1) (w2 : Wf .u16 x2) : shutterlaw09_InputApart.m KK x0 x1 x2 = some true := by
  unfold shutterlaw09_InputApart.m
  simp only [awake09, Option.bind_some, cond_true]
  obtain ⟨b, hb, hf⟩ := few9_eq x0
  obtain ⟨c, hc, hg⟩ := few9_eq x1
  rw [hb, hc, Option.bind_some, Option.bind_some]
  cases b with
  | false => rfl
  | true =>
    cases c with
    | false => rfl
    | true =>
      have hf := hf rfl
      have hg := hg rfl
      obtain ⟨n1, n2⟩ := sizes w2
      have hs : x0.Fields.length ≤ 100000 := by have := hf.len; omega
      have ht : ∀ f ∈ x0.Fields, f.Text.length ≤ 100000 := fun f hx => by have := hf.text f hx; omega
      have hl := writeI_len (o := x0) (n := 1 + x2 % 16383)
      simp only [cond_true, size09 w2, Option.bind_some, hf.write n1 n2, hg.write n1 n2, sameI_eq hs ht, refsameI_eq hs ht, same_eq (show (writeI x0 (1 + x2 % 16383)).1.length ≤ 100000 by omega)]
      by_cases he : (writeI x0 (1 + x2 % 16383)).2 = .nil
      · by_cases he2 : (writeI x1 (1 + x2 % 16383)).2 = .nil
        · rw [if_pos he, if_pos he2, writeI_inj n1 n2 he he2]
          simp
        · rw [if_pos he, if_neg he2]
      · rw [if_neg he]

theorem letJ_bare {α : Type} (F : Bool → α) (c : Int) : letJ F (fun j => if c = 109 then j true else (if c = 108 then j true else (if c = 110 then j true else (if c = 107 then j true else j false)))) = F (bareC c) := by
  unfold letJ bareC
  by_cases h1 : c = 109
  · simp [h1]
  by_cases h2 : c = 108
  · simp [h2]
  by_cases h3 : c = 110
  · simp [h3]
  by_cases h4 : c = 107
  · simp [h4]
  have e : (c == 109 || c == 108 || c == 110 || c == 107) = false := by simp [h1, h2, h3, h4]
  rw [e]
  simp [h1, h2, h3, h4]
theorem InputLengths_true (x0 : api_In) (x1 : Int) (_ : ok_api_In x0) (w1 : Wf .u16 x1) : shutterlaw09_InputLengths.m KK x0 x1 = some true := by
  unfold shutterlaw09_InputLengths.m
  simp only [awake09, Option.bind_some, cond_true]
  obtain ⟨b, hb, hf⟩ := few9_eq x0
  rw [hb, Option.bind_some]
  cases b with
  | false => rfl
  | true =>
    have hf := hf rfl
    obtain ⟨n1, n2⟩ := sizes w1
    simp only [cond_true, size09 w1, Option.bind_some, hf.write n1 n2]
    have step : (∀ f ∈ x0.Fields, f.Addr = -1 ∨ 0 ≤ f.Addr) → ∀ (k : Nat) (i a : Int), 0 ≤ i → i ≤ (x0.Fields.length : Int) → (x0.Fields.length : Int) - i < k → 0 ≤ a → a ≤ 3 + 10000 * i →
        shutterlaw09_InputLengths.l1.m KK x0 k a i = some (a + ((flatF (x0.Fields.drop i.toNat) (1 + x1 % 16383)).length : Int)) := by
      intro hr k
      induction k with
      | zero => intro i a h0 h1 h2; omega
      | succ k ih =>
        intro i a h0 h1 h2 a0 a1
        have h60 := hf.len
        rw [shutterlaw09_InputLengths.l1.m]
        by_cases h3 : i < (x0.Fields.length : Int)
        · have hm : at_ x0.Fields i ∈ x0.Fields := by rw [at_eq (hi := by omega)]; exact List.getElem_mem _
          have hd : x0.Fields.drop i.toNat = at_ x0.Fields i :: x0.Fields.drop (i + 1).toNat := by rw [List.drop_eq_getElem_cons (by omega), at_eq (hi := by omega)]; congr 2; omega
          have ht := hf.text _ hm
          have hpl := putF_len (at_ x0.Fields i) (1 + x1 % 16383)
          rw [if_pos h3, if_pos h0, hd, flatF_cons, List.length_append]
          rw [w64_id (n := a + ((at_ x0.Fields i).Text.length : Int)) (by omega) (by omega), w64_id (n := i + 1) (by omega) (by omega)]
          rcases hr _ hm with ha | ha
          · rw [if_neg (by omega), ih (i + 1) _ (by omega) (by omega) (by omega) (by omega) (by omega), hpl, if_pos ha]
            congr 1; omega
          · rw [if_pos (by omega), w64_id (by omega) (by omega), ih (i + 1) _ (by omega) (by omega) (by omega) (by omega) (by omega), hpl, if_neg (by omega)]
            congr 1; omega
        · rw [if_neg h3, List.drop_eq_nil_of_le (by omega)]
          simp [flatF]
    by_cases he : (writeI x0 (1 + x1 % 16383)).2 = .nil
    · rw [if_pos he]
      unfold writeI at he ⊢
      by_cases hi : errI x0 (1 + x1 % 16383) = .nil
      · rw [if_pos hi] at he ⊢
        unfold errI at hi
        cases ha : aidC x0.Aid with
        | false => rw [ha] at hi; simp at hi
        | true =>
          rw [ha] at hi
          simp only [if_true] at hi
          cases hb : bareC x0.Aid with
          | true =>
            rw [hb] at hi
            simp only [if_true] at hi
            by_cases hz : x0.Cursor ≠ 0 ∨ x0.Fields ≠ []
            · rw [if_pos hz] at hi; simp at hi
            simp only [not_or, Decidable.not_not] at hz
            rw [step (by rw [hz.2]; simp) KK 0 3 (by omega) (by omega) (by unfold KK; have := hf.len; omega) (by omega) (by omega), Option.bind_some]
            rw [letJ_bare, hb]
            simp [at_]
          | false =>
            rw [hb] at hi he
            simp only [Bool.false_eq_true, if_false] at hi he
            by_cases hc : x0.Cursor < 0 ∨ x0.Cursor ≥ (1 + x1 % 16383)
            · rw [if_pos hc] at hi; simp at hi
            rw [if_neg hc] at hi
            have hfw : fW (1 + x1 % 16383) (x0.Fields.length == 1) 0 x0.Fields = none := by
              cases hx : fW (1 + x1 % 16383) (x0.Fields.length == 1) 0 x0.Fields with
              | none => rfl
              | some q => rw [hx] at hi; simp at hi
            have hr : ∀ f ∈ x0.Fields, f.Addr = -1 ∨ 0 ≤ f.Addr := by
              intro f hf
              rcases fields_right hfw with ⟨t, e, _, _⟩ | r
              · rw [e] at hf; simp at hf; subst hf; exact .inl rfl
              · exact .inr (r f hf).lo
            by_cases hl : 3 + (flatF x0.Fields (1 + x1 % 16383)).length > 8192
            · rw [if_pos hl] at he; simp at he
            rw [step hr KK 0 3 (by omega) (by omega) (by unfold KK; have := hf.len; omega) (by omega) (by omega), Option.bind_some]
            rw [letJ_bare, hb]
            simp only [Bool.false_eq_true, if_false, if_neg hl, cond_false, Int.toNat_zero, List.drop_zero]
            rw [if_pos (by simp only [List.length_cons]; omega), if_pos (show at_ (x0.Aid :: _) 0 = x0.Aid from rfl)]
            simp only [List.length_cons, List.length_append, put_len, Option.some.injEq, beq_iff_eq]
            omega
      · rw [if_neg hi] at he; exact absurd he hi
    · rw [if_neg he]
      unfold writeI at he ⊢
      split
      · rename_i hi
        rw [if_pos hi] at he
        split
        · rename_i hb; rw [if_pos hb] at he; exact absurd rfl he
        · rename_i hb
          rw [if_neg hb] at he
          split
          · rfl
          · rename_i hl; rw [if_neg hl] at he; exact absurd rfl he
      · rfl

theorem xor1_loop9 : ∀ (k : Nat) (l : List Int) (i : Int), 0 ≤ i → i ≤ (l.length : Int) → (l.length : Int) - i < k → l.length ≤ 100000 → shutterlaw09_InputKeeps.l1.m KK k l i = some () := by
  intro k
  induction k with
  | zero => intro l i h0 h1 h2; omega
  | succ k ih =>
    intro l i h0 h1 h2 h3
    rw [shutterlaw09_InputKeeps.l1.m]
    by_cases h : i < (l.length : Int)
    · rw [if_pos h, if_pos h0, w64_id (n := i + 1) (by omega) (by omega), ih _ (i + 1) (by omega) (by rw [List.length_set]; omega) (by rw [List.length_set]; omega) (by rw [List.length_set]; omega)]
    · rw [if_neg h]
theorem xor2_loop9 : ∀ (k : Nat) (l : List Int) (i : Int), 0 ≤ i → i ≤ (l.length : Int) → (l.length : Int) - i < k → l.length ≤ 100000 → shutterlaw09_InputKeeps.l2.m KK k l i = some () := by
  intro k
  induction k with
  | zero => intro l i h0 h1 h2; omega
  | succ k ih =>
    intro l i h0 h1 h2 h3
    rw [shutterlaw09_InputKeeps.l2.m]
    by_cases h : i < (l.length : Int)
    · rw [if_pos h, if_pos h0, w64_id (n := i + 1) (by omega) (by omega), ih _ (i + 1) (by omega) (by rw [List.length_set]; omega) (by rw [List.length_set]; omega) (by rw [List.length_set]; omega)]
    · rw [if_neg h]
theorem InputKeeps_true (x0 : List Int) (w0 : ∀ y ∈ x0, Wf .u8 y) (_ : x0.length ≤ maxLen) : shutterlaw09_InputKeeps.m KK x0 = some true := by
  unfold shutterlaw09_InputKeeps.m
  simp only [awake09, Option.bind_some, cond_true]
  by_cases h : (x0.length : Int) > 200
  · rw [if_pos h]
  rw [if_neg h]
  have hl : ([125, 64, 64] ++ x0).length ≤ 203 := by simp; omega
  have hw : ∀ y ∈ [125, 64, 64] ++ x0, Wf .u8 y := by
    intro y hy
    rcases List.mem_append.1 hy with hy | hy
    · simp at hy; rcases hy with rfl | rfl <;> exact wf8 (by decide) (by decide)
    · exact w0 y hy
  have ha : app [125, 64, 64] x0 = some ([125, 64, 64] ++ x0) := app_ok (by simp only [List.length_cons, List.length_nil]; omega)
  simp only [ha, Option.bind_some, read9_eq hw (show (1 : Int) ≤ 80 by decide) (show (80 : Int) ≤ 16383 by decide) (show ([125, 64, 64] ++ x0).length ≤ 100000 by omega), letJ]
  generalize hb : [125, 64, 64] ++ x0 = b at *
  obtain ⟨t1, t2⟩ := readI_texts (n := 80) hw (by decide) (by decide) (by omega)
  rw [xor1_loop9 KK b 0 (by omega) (by omega) (by unfold KK; omega) (by omega), Option.bind_some]
  simp only [refsameI_eq t1 t2, Option.bind_some, beq_self_eq_true, cond_true]
  have last : ((input_Write.m KK (readI b 80).1 80).bind fun t269 => ((shutterlaw09_InputKeeps.l2.m KK KK t269.1 0).bind fun _ => some true)) = some true := by
    by_cases he : (readI b 80).2 = .nil
    · rw [readI_ok hw (by decide) (by decide) (by omega) he, Option.bind_some, xor2_loop9 KK b 0 (by omega) (by omega) (by unfold KK; omega) (by omega)]; rfl
    · have hz : (zIn.Fields).length ≤ 100000 := by decide
      have hz2 : ∀ f ∈ zIn.Fields, f.Text.length ≤ 100000 := by intro f hf; simp [zIn] at hf
      rw [readI_bad he, write9_eq (by decide) (by decide) hz hz2 (by simp [zIn, flatF]), Option.bind_some]
      have : (writeI zIn 80).1 = [] := by decide
      rw [this, xor2_loop9 KK [] 0 (by omega) (by simp) (by unfold KK; simp) (by simp)]; rfl
  by_cases he : (readI b 80).2 = .nil
  · rw [if_pos he, if_pos he]; exact last
  · rw [if_neg he, if_neg he]; exact last
end Go.Proofs.YtlomgckbmdjmhaaDoor.Sx
