import Derived.Test.YtfkdbplnjlkcdaaGreatDoorPP
namespace Go.Proofs.YtfkdbplnjlkcdaaGreatDoor.Sx
open Go
theorem fields_eq {b : List Int} {n p : Int} (w : ∀ y ∈ b, Wf .u8 y) (n1 : 1 ≤ n) (n2 : n ≤ 16383) (hb : b.length ≤ 100000) (h0 : 0 ≤ p) (h1 : p ≤ (b.length : Int)) :
    ∃ p' e' acc', input_fields.m KK ⟨b, p, .nil⟩ n = some (acc', ⟨b, p', e'⟩) ∧
      (cntL (b.drop p.toNat) = 0 → ((fd n (b.drop p.toNat)).2.2 = .nil → e' = .nil ∧ acc' = (fd n (b.drop p.toNat)).1) ∧ ((fd n (b.drop p.toNat)).2.2 ≠ .nil → e' = .spot (p + ((fd n (b.drop p.toNat)).2.1 : Int)) (fd n (b.drop p.toNat)).2.2)) ∧
      (cntL (b.drop p.toNat) ≠ 0 → (cntL (b.drop p.toNat) < (b.drop p.toNat).length → e' = .spot (p + (cntL (b.drop p.toNat) : Int)) (.no 3)) ∧ (¬ cntL (b.drop p.toNat) < (b.drop p.toNat).length → e' = .nil ∧ acc' = [⟨-1, b.drop p.toNat⟩])) := by
  have ok : CurOk ⟨b, p, .nil⟩ := ⟨h0, h1, hb, w⟩
  have start : cntL (b.drop p.toNat) = 0 → ∃ p' e' acc', ((input_fields.l1.m KK n KK [] b p .nil).bind fun (x147, x153, x158, x159) => (some (x147, (⟨x153, x158, x159⟩ : bytes_Cursor)))) = some (acc', ⟨b, p', e'⟩) ∧
      ((fd n (b.drop p.toNat)).2.2 = .nil → e' = .nil ∧ acc' = (fd n (b.drop p.toNat)).1) ∧ ((fd n (b.drop p.toNat)).2.2 ≠ .nil → e' = .spot (p + ((fd n (b.drop p.toNat)).2.1 : Int)) (fd n (b.drop p.toNat)).2.2) := by
    intro _
    obtain ⟨p', e', acc', r1, r2, r3⟩ := fields_loop (n := n) w n1 n2 hb KK p [] h0 h1 (by unfold KK; omega) (by simp; omega) (.inl rfl)
    rw [r1]
    exact ⟨p', e', acc', rfl, by simpa using r2, r3⟩
  unfold input_fields.m
  simp only [letJ, peek_eq ok, Option.bind_some, true_and]
  by_cases hp : p < (b.length : Int)
  · have hd := drop_at h0 hp
    simp only [hp, if_true, cond_true, letter_eq, Option.bind_some]
    cases hc : ltr (at_ b p) with
    | false =>
      have hz : cntL (b.drop p.toNat) = 0 := by rw [hd, cntL_cons, hc]; rfl
      obtain ⟨p', e', acc', r1, r2⟩ := start hz
      exact ⟨p', e', acc', r1, fun _ => r2, fun h => absurd hz h⟩
    | true =>
      have hz : cntL (b.drop p.toNat) ≠ 0 := by rw [hd, cntL_cons, hc]; simp
      have okl := lettersC_ok ok
      simp only [cond_true, letters_eq ok, Option.bind_some]
      have e2 : lettersC ⟨b, p, .nil⟩ = ((b.drop p.toNat).takeWhile ltr, ⟨b, p + cntL (b.drop p.toNat), .nil⟩) := by unfold lettersC; simp only [if_true]
      rw [e2] at okl ⊢
      rw [app_ok (by simp), Option.bind_some]
      have q1 := okl.h1
      simp only at q1
      have hkk : KK = (KK - 1) + 1 := rfl
      simp only
      rw [hkk, input_fields.l1.m]
      simp only [left_eq okl, Option.bind_some]
      have hl : (b.drop p.toNat).length = b.length - p.toNat := List.length_drop ..
      by_cases hlt : (b.length : Int) - (p + (cntL (b.drop p.toNat) : Int)) > 0
      · have hlt' : p + (cntL (b.drop p.toNat) : Int) < (b.length : Int) := by omega
        simp only [hlt, if_true, err_eq, Option.bind_some, letJ, peek_eq okl, hlt', true_and, fail_eq]
        have hf : failC ⟨b, p + (cntL (b.drop p.toNat) : Int), .nil⟩ (.no 3) = ⟨b, p + (cntL (b.drop p.toNat) : Int), .spot (p + (cntL (b.drop p.toNat) : Int)) (.no 3)⟩ := by unfold failC; simp
        refine ⟨p + (cntL (b.drop p.toNat) : Int), .spot (p + (cntL (b.drop p.toNat) : Int)) (.no 3), [⟨-1, (b.drop p.toNat).takeWhile ltr⟩], ?_, fun h => absurd h hz, fun _ => ⟨fun _ => rfl, fun h => absurd (show cntL (b.drop p.toNat) < (b.drop p.toNat).length by omega) h⟩⟩
        by_cases hx : at_ b (p + (cntL (b.drop p.toNat) : Int)) = 17
        · simp only [hx, if_true]
          have hA : (at_ ([] ++ [(⟨-1, (b.drop p.toNat).takeWhile ltr⟩ : api_Entry)]) 0).Addr = -1 := rfl
          rw [if_pos (by simp), if_pos (by simp), hA, if_pos rfl, hf]
          rfl
        · simp only [hx, if_false, hf]
          rfl
      · simp only [hlt, if_false]
        refine ⟨_, .nil, _, rfl, fun h => absurd h hz, fun _ => ⟨fun h => by omega, fun _ => ⟨rfl, ?_⟩⟩⟩
        have hall := takeL (b.drop p.toNat)
        rw [List.take_of_length_le (by omega)] at hall
        rw [← hall]; rfl
  · have hp' : p = (b.length : Int) := by omega
    have hz : cntL (b.drop p.toNat) = 0 := by rw [drop_nil hp']; rfl
    simp only [hp, if_false, cond_false]
    obtain ⟨p', e', acc', r1, r2⟩ := start hz
    exact ⟨p', e', acc', r1, fun _ => r2, fun h => absurd hz h⟩
theorem flat_eq (e : GoErr) : input_flat.m e = some (flatOf e) := rfl
theorem fd_code {n : Int} : ∀ (m : Nat) (s : List Int), s.length ≤ m → (fd n s).2.2 = .nil ∨ ∃ k, code? (fd n s).2.2 = some k ∧ k ≠ 0 := by
  intro m
  induction m with
  | zero =>
    intro s hs
    have : s = [] := List.eq_nil_of_length_eq_zero (by omega)
    subst this
    exact .inl rfl
  | succ m ih =>
    intro s hs
    cases s with
    | nil => exact .inl rfl
    | cons x r =>
      rw [fd_cons]
      simp only [List.length_cons] at hs
      by_cases hx : x = 17
      · rw [if_pos hx]
        by_cases hg : (getOf r n).2 = .nil
        · rw [if_pos hg]
          exact ih _ (by rw [List.length_drop, List.length_drop]; omega)
        · rw [if_neg hg]
          have hc := getOf_code hg
          refine .inr ⟨codeOf (getOf r n).2, ?_, hc⟩
          unfold codeOf at hc ⊢
          cases h : code? (getOf r n).2 with
          | none => rw [h] at hc; exact absurd rfl hc
          | some k => rfl
      · rw [if_neg hx]; exact .inr ⟨3, rfl, by decide⟩
theorem flat_spot {a : Int} {e : GoErr} {k : Int} (h : code? e = some k) : flatOf (.spot a e) = .spot a (.no (codeOf e)) := by
  show (match code? e with | some n => GoErr.spot a (.no n) | none => GoErr.spot a e) = _
  unfold codeOf
  rw [h]; rfl
theorem read9_eq {b : List Int} {n : Int} (w : ∀ y ∈ b, Wf .u8 y) (n1 : 1 ≤ n) (n2 : n ≤ 16383) (hb : b.length ≤ 100000) : input_Read.m KK b n = some (readI b n) := by
  unfold input_Read.m readI
  by_cases hl : (b.length : Int) > 8192
  · simp only [hl, if_true, ispot_eq, Option.bind_some]; rfl
  have ok0 : CurOk ⟨b, 0, .nil⟩ := ⟨Int.le_refl _, by simp only; omega, hb, w⟩
  simp only [hl, if_false, new_eq hb, Option.bind_some, letJ]
  cases b with
  | nil =>
    have : bytes_Cursor_Byte.m ⟨[], 0, .nil⟩ = some (0, ⟨[], 0, .spot 0 (.no 2)⟩) := rfl
    rw [this]
    simp only [Option.bind_some, err_eq, reduceCtorEq, if_false, cond_true]
    rfl
  | cons c r =>
    have u := b_u8 (w c (by simp))
    have hlt : (0 : Int) < ((c :: r).length : Int) := by simp
    have ok1 : CurOk ⟨c :: r, 0 + 1, .nil⟩ := ⟨by simp only; omega, by simp only [List.length_cons]; omega, hb, w⟩
    simp only [byte_ok ok0 hlt, Option.bind_some, err_eq, if_true, cond_false, show at_ (c :: r) 0 = c from rfl, aid_eq, bare_eq, ispot_eq]
    cases ha : aidC c with
    | false => rfl
    | true =>
      simp only [cond_true, cond_false, if_true]
      cases hbr : bareC c with
      | true =>
        simp only [cond_true, if_true, left_eq ok1, Option.bind_some]
        cases r with
        | nil => rfl
        | cons x s =>
          rw [if_pos (by simp only [List.length_cons]; omega), if_neg (by simp)]
          rfl
      | false =>
        simp only [cond_false, Bool.false_eq_true, if_false, addr_eq ok1, Option.bind_some]
        have hd1 : List.drop (0 + 1 : Int).toNat (c :: r) = r := rfl
        by_cases hg : (getOf r n).2 = .nil
        · have h2 := getOf_good hg
          have e1 : addrC ⟨c :: r, 0 + 1, .nil⟩ n = ((getOf r n).1, ⟨c :: r, 0 + 1 + 2, .nil⟩) := by unfold addrC; simp only [if_true, hd1, hg]
          rw [e1, if_pos hg]
          have hd3 : List.drop (0 + 1 + 2 : Int).toNat (c :: r) = r.drop 2 := rfl
          obtain ⟨p', e', acc', r1, r2, r3⟩ := fields_eq (b := c :: r) (p := 0 + 1 + 2) w n1 n2 hb (by decide) (by simp only [List.length_cons]; omega)
          rw [hd3] at r2 r3
          simp only [r1, Option.bind_some, err_eq, flat_eq]
          by_cases hz : cntL (r.drop 2) = 0
          · rw [if_pos hz]
            obtain ⟨q1, q2⟩ := r2 hz
            by_cases hq : (fd n (r.drop 2)).2.2 = .nil
            · obtain ⟨rfl, rfl⟩ := q1 hq
              rw [if_pos hq, if_pos rfl]
            · have := q2 hq
              subst this
              rw [if_neg hq, if_neg (by simp)]
              rcases fd_code (n := n) (r.drop 2).length (r.drop 2) (Nat.le_refl _) with h | ⟨k, h, _⟩
              · exact absurd h hq
              · rw [flat_spot h]; rfl
          · rw [if_neg hz]
            obtain ⟨q1, q2⟩ := r3 hz
            by_cases hq : cntL (r.drop 2) < (r.drop 2).length
            · have := q1 hq
              subst this
              rw [if_pos hq, if_neg (by simp), flat_spot (k := 3) rfl]
              rfl
            · obtain ⟨rfl, rfl⟩ := q2 hq
              rw [if_neg hq, if_pos rfl]
        · have e1 : addrC ⟨c :: r, 0 + 1, .nil⟩ n = (0, ⟨c :: r, 0 + 1, .spot (0 + 1) (getOf r n).2⟩) := by unfold addrC; simp only [if_true, hd1, hg, if_false]
          rw [e1, if_neg hg]
          have hc := getOf_code hg
          have okx : CurOk ⟨c :: r, 0 + 1, .spot (0 + 1) (getOf r n).2⟩ := ⟨by simp only; omega, by simp only [List.length_cons]; omega, hb, w⟩
          have hfl : input_fields.m KK ⟨c :: r, 0 + 1, .spot (0 + 1) (getOf r n).2⟩ n = some ([], ⟨c :: r, 0 + 1, .spot (0 + 1) (getOf r n).2⟩) := by
            unfold input_fields.m
            have hkk : KK = (KK - 1) + 1 := rfl
            simp only [letJ, peek_eq okx, Option.bind_some, reduceCtorEq, false_and, if_false, cond_false]
            have hl1 : ∀ K, input_fields.l1.m K n KK [] (c :: r) (0 + 1) (.spot (0 + 1) (getOf r n).2) = some ([], c :: r, 0 + 1, .spot (0 + 1) (getOf r n).2) := by
              intro K
              rw [hkk, input_fields.l1.m]
              simp only [left_eq okx, Option.bind_some, err_eq, reduceCtorEq, if_false]
              split <;> rfl
            rw [hl1]; rfl
          simp only [hfl, Option.bind_some, err_eq, reduceCtorEq, if_false, flat_eq]
          have hk : code? (getOf r n).2 = some (codeOf (getOf r n).2) := by
            unfold codeOf at hc ⊢
            cases h : code? (getOf r n).2 with
            | none => rw [h] at hc; exact absurd rfl hc
            | some k => rfl
          rw [flat_spot hk]
          rfl
theorem wf8i {x : Int} (h0 : 0 ≤ x) (h1 : x ≤ 255) : Wf .u8 x := by
  unfold Wf
  simp [Lit.wf, IntKind.min, IntKind.max, IntKind.signed, IntKind.bits]
  omega
theorem writeI_u8 {o : api_In} {n : Int} (n1 : 1 ≤ n) (n2 : n ≤ 16383) (ha : Wf .u8 o.Aid) (hu : ∀ f ∈ o.Fields, ∀ y ∈ f.Text, Wf .u8 y) (h : (writeI o n).2 = .nil) : ∀ y ∈ (writeI o n).1, Wf .u8 y := by
  unfold writeI at h ⊢
  by_cases he : errI o n = .nil
  · rw [if_pos he] at h ⊢
    unfold errI at he
    cases haa : aidC o.Aid with
    | false => rw [haa] at he; simp at he
    | true =>
      rw [haa] at he
      simp only [if_true] at he
      cases hb : bareC o.Aid with
      | true => intro y hy; simp at hy; subst hy; exact ha
      | false =>
        rw [hb] at h he
        simp only [Bool.false_eq_true, if_false] at h he ⊢
        by_cases hc : o.Cursor < 0 ∨ o.Cursor ≥ n
        · rw [if_pos hc] at he; simp at he
        rw [if_neg hc] at he
        by_cases hl : 3 + (flatF o.Fields n).length > 8192
        · rw [if_pos hl] at h; simp at h
        rw [if_neg hl]
        have hfw : fW n (o.Fields.length == 1) 0 o.Fields = none := by
          cases hx : fW n (o.Fields.length == 1) 0 o.Fields with
          | none => rfl
          | some q => rw [hx] at he; simp at he
        have hr : ∀ f ∈ o.Fields, f.Addr = -1 ∨ (0 ≤ f.Addr ∧ f.Addr < n) := by
          intro f hf
          rcases fields_right hfw with ⟨t, e, _, _⟩ | r
          · rw [e] at hf; simp at hf; subst hf; exact .inl rfl
          · exact .inr ⟨(r f hf).lo, (r f hf).hi⟩
        have hflat : ∀ l : List api_Entry, (∀ f ∈ l, f.Addr = -1 ∨ (0 ≤ f.Addr ∧ f.Addr < n)) → (∀ f ∈ l, ∀ y ∈ f.Text, Wf .u8 y) → ∀ y ∈ flatF l n, Wf .u8 y := by
          intro l
          induction l with
          | nil => intro _ _ y hy; simp [flatF] at hy
          | cons f l ih =>
            intro h1 h2 y hy
            rw [flatF_cons] at hy
            rcases List.mem_append.1 hy with hy | hy
            · unfold putF at hy
              rcases List.mem_append.1 hy with hy | hy
              · split at hy
                · simp at hy
                · rename_i hna
                  have hq := (h1 f (by simp)).resolve_left hna
                  rcases List.mem_cons.1 hy with rfl | hy
                  · exact wf8i (by decide) (by decide)
                  · exact put_u8 n2 hq.1 hq.2 y hy
              · exact h2 f (by simp) y hy
            · exact ih (fun f hf => h1 f (by simp [hf])) (fun f hf => h2 f (by simp [hf])) y hy
        intro y hy
        rcases List.mem_cons.1 hy with rfl | hy
        · exact ha
        · rcases List.mem_append.1 hy with hy | hy
          · exact put_u8 n2 (by omega) (by omega) y hy
          · exact hflat _ hr hu y hy
  · rw [if_neg he] at h; exact absurd h he
end Go.Proofs.YtfkdbplnjlkcdaaGreatDoor.Sx
