import Derived.Test.YtfkdbplnjlkcdaaGreatDoorPM
namespace Go.Proofs.YtfkdbplnjlkcdaaGreatDoor.Sx
open Go
theorem bare_eq (c : Int) : attr_Bare.m c = some (bareC c) := by
  unfold attr_Bare.m bareC
  by_cases h1 : c = 109
  · subst h1; rfl
  by_cases h2 : c = 108
  · subst h2; rfl
  by_cases h3 : c = 110
  · subst h3; rfl
  by_cases h4 : c = 107
  · subst h4; rfl
  have e1 : (c == 109) = false := by simpa using h1
  have e2 : (c == 108) = false := by simpa using h2
  have e3 : (c == 110) = false := by simpa using h3
  have e4 : (c == 107) = false := by simpa using h4
  rw [if_neg h2, if_neg h3, if_neg h4, if_neg h1, e1, e2, e3, e4]; rfl
theorem aid_eq (c : Int) : attr_Aid.m c = some (aidC c) := by
  unfold attr_Aid.m aidC
  rw [bare_eq, Option.bind_some]
  cases bareC c with
  | true => rfl
  | false =>
    rw [cond_false]
    by_cases h1 : c = 125
    · subst h1; rfl
    have e1 : (c == 125) = false := by simpa using h1
    rw [if_neg h1, e1]
    by_cases h2 : c ≥ 241 <;> by_cases h3 : c ≤ 249 <;> by_cases h4 : c ≥ 122 <;> simp [h2, h3, h4] <;> omega
theorem letter_eq (b : Int) : input_letter.m b = some (ltr b) := by
  unfold input_letter.m ltr
  by_cases h : b = 0
  · subst h; rfl
  · have e : (b != 0) = true := by simpa using h
    rw [if_neg h, char_eq, e]; rfl
theorem strange_eq (b : Int) : input_strange.m b = some (!ltr b) := by
  unfold input_strange.m; rw [letter_eq]; rfl
theorem indexl_eq {l : List Int} (hl : l.length ≤ 100000) : slices_IndexFunc_bytes__input_strange.m KK l = some (if cntL l < l.length then (cntL l : Int) else -1) := by
  have step : ∀ (k : Nat) (i : Int), 0 ≤ i → i ≤ (l.length : Int) → (l.length : Int) - i < k →
      slices_IndexFunc_bytes__input_strange.l1.m KK l k i = some (if i + cntL (l.drop i.toNat) < l.length then .inl (i + cntL (l.drop i.toNat)) else .inr ()) := by
    intro k
    induction k with
    | zero => intro i h0 h1 h2; omega
    | succ k ih =>
      intro i h0 h1 h2
      rw [slices_IndexFunc_bytes__input_strange.l1.m]
      by_cases h3 : i < (l.length : Int)
      · simp only [letJ, h3, h0, if_true, cond_true, strange_eq, Option.bind_some]
        rw [drop_at h0 h3, cntL_cons]
        cases hc : ltr (at_ l i) with
        | false => simp [h3]
        | true =>
          simp only [Bool.not_true, cond_false, if_true]
          rw [w64_id (n := i + 1) (by omega) (by omega), ih (i + 1) (by omega) (by omega) (by omega)]
          have : i + 1 + ((cntL (List.drop (i + 1).toNat l) : Nat) : Int) = i + ((cntL (List.drop (i + 1).toNat l) + 1 : Nat) : Int) := by omega
          rw [this]
      · have : i = (l.length : Int) := by omega
        subst this
        simp [letJ, cntL]
  unfold slices_IndexFunc_bytes__input_strange.m
  rw [step KK 0 (by omega) (by omega) (by unfold KK; omega), Option.bind_some]
  simp only [Int.toNat_zero, List.drop_zero, Int.zero_add]
  by_cases h : cntL l < l.length
  · rw [if_pos (by omega), if_pos h]
  · rw [if_neg (by omega), if_neg h]
theorem cntL_lt {l : List Int} : cntL l < l.length ↔ l.all ltr = false := by
  induction l with
  | nil => simp [cntL]
  | cons x l ih =>
    rw [cntL_cons, List.all_cons, List.length_cons]
    cases hc : ltr x with
    | false => simp
    | true => simp only [if_true, Nat.add_lt_add_iff_right, Bool.true_and]; exact ih
theorem containsl_eq {l : List Int} (hl : l.length ≤ 100000) : slices_ContainsFunc_bytes__input_strange.m KK l = some (!l.all ltr) := by
  unfold slices_ContainsFunc_bytes__input_strange.m
  rw [indexl_eq hl, Option.bind_some]
  by_cases h : cntL l < l.length
  · rw [if_pos h, cntL_lt.1 h]; simp
  · rw [if_neg h]
    have : l.all ltr = true := by
      cases h' : l.all ltr with
      | true => rfl
      | false => exact absurd (cntL_lt.2 h') h
    rw [this]; rfl
theorem ispot_eq (a : Int) (e : GoErr) : input_spot.m a e = some (.spot a e) := rfl
def errF (k : Int) : GoErr := if k = 0 then .nil else .no k
theorem field_eq {f : api_Entry} {s : Bool} {n : Int} (ht : f.Text.length ≤ 100000) : input_field.m KK f s n = some (errF (wrongF f s n)) := by
  unfold input_field.m wrongF
  simp only [letJ, containsl_eq ht, Option.bind_some]
  have hem : ((f.Text.length : Int) = 0) ↔ f.Text.isEmpty = true := by cases f.Text <;> simp <;> omega
  by_cases ha : f.Addr = -1
  · have e : (f.Addr == -1) = true := by simpa using ha
    have h0 : f.Addr < 0 := by omega
    rw [e]
    cases s with
    | true =>
      simp only [ha, if_true, cond_true, Bool.and_true, Bool.not_true, Bool.false_and, Bool.true_and, Bool.false_eq_true, if_false, cond_false]
      cases hq : f.Text.all ltr with
      | false => rfl
      | true =>
        simp only [Bool.not_true, cond_false, hem]
        by_cases h : f.Text.isEmpty = true
        · rw [if_pos h]; simp [h]; rfl
        · rw [if_neg h]; simp [h]; rfl
    | false =>
      simp [ha]; rfl
  · have e : (f.Addr == -1) = false := by simpa using ha
    rw [e]
    have : (bif s then (if f.Addr = -1 then true else false) else false) = false := by cases s <;> simp [ha]
    have e2 : ∀ {α : Type} (x y : α), (bif s then (if f.Addr = -1 then x else y) else y) = y := by intro α x y; cases s <;> simp [ha]
    simp only [e2, cond_false, Bool.and_false, Bool.not_false, Bool.true_and]
    by_cases h1 : f.Addr < 0
    · simp [h1]; rfl
    · by_cases h2 : f.Addr ≥ n
      · simp [h1, h2]; rfl
      · simp only [h1, h2, if_false, decide_false, Bool.or_false, Bool.false_eq_true, cond_false]
        cases hq : f.Text.all ltr with
        | false => rfl
        | true => rfl
theorem errF_nil {k : Int} : errF k = .nil ↔ k = 0 := by
  unfold errF; split
  · rename_i h; simp [h]
  · rename_i h; simp [h]
theorem right_loop9 {o : api_In} {n : Int} (hl : o.Fields.length ≤ 100000) (hx : ∀ f ∈ o.Fields, f.Text.length ≤ 100000) : ∀ (k : Nat) (i : Int), 0 ≤ i → i ≤ (o.Fields.length : Int) → (o.Fields.length : Int) - i < k →
    input_Right.l1.m KK o n k i = some (match fW n (o.Fields.length == 1) i (o.Fields.drop i.toNat) with | some (j, w) => .inl (.spot j (.no w)) | none => .inr ()) := by
  intro k
  induction k with
  | zero => intro i h0 h1 h2; omega
  | succ k ih =>
    intro i h0 h1 h2
    rw [input_Right.l1.m]
    simp only [letJ]
    by_cases h3 : i < (o.Fields.length : Int)
    · have hm : at_ o.Fields i ∈ o.Fields := by rw [at_eq (hi := by omega)]; exact List.getElem_mem _
      have e1 : ((o.Fields.length : Int) == 1) = (o.Fields.length == 1) := by
        rw [Bool.eq_iff_iff]; simp; omega
      have hd : o.Fields.drop i.toNat = at_ o.Fields i :: o.Fields.drop (i + 1).toNat := by
        rw [List.drop_eq_getElem_cons (by omega), at_eq (hi := by omega)]
        congr 2; omega
      simp only [h3, if_true, cond_true, h0, field_eq (hx _ hm), Option.bind_some, e1, errF_nil]
      rw [hd, fW]
      by_cases hw : wrongF (at_ o.Fields i) (o.Fields.length == 1) n = 0
      · rw [if_pos hw, if_neg (by simp [hw]), w64_id (n := i + 1) (by omega) (by omega), ih (i + 1) (by omega) (by omega) (by omega)]
      · rw [if_neg hw, if_pos hw, ispot_eq, Option.bind_some]
        unfold errF
        rw [if_neg hw]
    · simp only [h3, if_false, cond_false]
      rw [List.drop_eq_nil_of_le (by omega), fW]
theorem right9_eq {o : api_In} {n : Int} (hl : o.Fields.length ≤ 100000) (hx : ∀ f ∈ o.Fields, f.Text.length ≤ 100000) : input_Right.m KK o n = some (errI o n) := by
  unfold input_Right.m errI
  simp only [letJ, aid_eq, bare_eq, Option.bind_some]
  have hf : ((o.Fields.length : Int) > 0) ↔ o.Fields ≠ [] := by cases o.Fields <;> simp
  cases ha : aidC o.Aid with
  | false => rfl
  | true =>
    simp only [cond_true, cond_false, if_true]
    cases hb : bareC o.Aid with
    | true =>
      simp only [cond_true, if_true]
      by_cases h1 : o.Cursor = 0
      · rw [if_pos h1]
        by_cases h2 : o.Fields = []
        · rw [if_neg (by rw [hf]; simp [h2]), if_neg (by simp [h1, h2])]
        · rw [if_pos (hf.2 h2), if_pos (.inr h2)]
      · rw [if_neg h1, if_pos (.inl h1)]
    | false =>
      simp only [cond_false, Bool.false_eq_true, if_false]
      by_cases h1 : o.Cursor < 0
      · simp [h1]
      · by_cases h2 : o.Cursor ≥ n
        · simp [h1, h2]
        · rw [if_neg h1, if_neg h2, if_neg (by omega), right_loop9 hl hx KK 0 (by omega) (by omega) (by unfold KK; omega)]
          simp only [Int.toNat_zero, List.drop_zero]
          cases hq : fW n (o.Fields.length == 1) 0 o.Fields with
          | none => rfl
          | some q => rfl
theorem place_eq {a n : Int} (n1 : 1 ≤ n) (n2 : n ≤ 16383) (h0 : 0 ≤ a) (h1 : a < n) : input_place.m KK a n = some (putOf a n) := by
  unfold input_place.m; rw [put04 n1 n2 h0 h1]; rfl
theorem write_loop9 {o : api_In} {n : Int} (n1 : 1 ≤ n) (n2 : n ≤ 16383) (hr : ∀ f ∈ o.Fields, f.Addr = -1 ∨ (0 ≤ f.Addr ∧ f.Addr < n)) (hl : o.Fields.length ≤ 100000) : ∀ (k : Nat) (i : Int) (acc : List Int), 0 ≤ i → i ≤ (o.Fields.length : Int) → (o.Fields.length : Int) - i < k →
    acc.length + (flatF (o.Fields.drop i.toNat) n).length ≤ 900000 →
    input_Write.l1.m KK o n k acc i = some (acc ++ flatF (o.Fields.drop i.toNat) n) := by
  intro k
  induction k with
  | zero => intro i acc h0 h1 h2; omega
  | succ k ih =>
    intro i acc h0 h1 h2 h4
    rw [input_Write.l1.m]
    simp only [letJ]
    by_cases h3 : i < (o.Fields.length : Int)
    · have hm : at_ o.Fields i ∈ o.Fields := by rw [at_eq (hi := by omega)]; exact List.getElem_mem _
      have hd : o.Fields.drop i.toNat = at_ o.Fields i :: o.Fields.drop (i + 1).toNat := by
        rw [List.drop_eq_getElem_cons (by omega), at_eq (hi := by omega)]
        congr 2; omega
      rw [hd, flatF_cons] at h4 ⊢
      simp only [List.length_append] at h4
      have hpl := putF_len (at_ o.Fields i) n
      simp only [h3, if_true, cond_true, h0]
      by_cases ha : (at_ o.Fields i).Addr = -1
      · have hpf : putF (at_ o.Fields i) n = (at_ o.Fields i).Text := by unfold putF; rw [if_pos ha]; rfl
        rw [hpf] at h4 ⊢
        simp only [ha, if_true, cond_false]
        rw [app_ok (by omega), Option.bind_some, w64_id (n := i + 1) (by omega) (by omega), ih (i + 1) _ (by omega) (by omega) (by omega) (by simp only [List.length_append]; omega)]
        simp
      · have hpf : putF (at_ o.Fields i) n = 17 :: (putOf (at_ o.Fields i).Addr n ++ (at_ o.Fields i).Text) := by unfold putF; rw [if_neg ha]; rfl
        rw [if_neg ha] at hpl
        have hq := (hr _ hm).resolve_left ha
        simp only [ha, if_false, cond_true]
        rw [app_ok (by simp only [List.length_singleton]; omega), Option.bind_some, place_eq n1 n2 hq.1 hq.2, Option.bind_some, app_ok (by simp only [List.length_append, List.length_singleton, put_len]; omega), Option.bind_some, app_ok (by simp only [List.length_append, List.length_singleton, put_len]; omega), Option.bind_some,
          w64_id (n := i + 1) (by omega) (by omega), ih (i + 1) _ (by omega) (by omega) (by omega) (by simp only [List.length_append, List.length_singleton, put_len]; omega), hpf]
        simp
    · simp only [h3, if_false, cond_false]
      rw [List.drop_eq_nil_of_le (by omega)]
      simp [flatF]
theorem write9_eq {o : api_In} {n : Int} (n1 : 1 ≤ n) (n2 : n ≤ 16383) (hl : o.Fields.length ≤ 100000) (hx : ∀ f ∈ o.Fields, f.Text.length ≤ 100000) (ht : (flatF o.Fields n).length ≤ 800000) : input_Write.m KK o n = some (writeI o n) := by
  unfold input_Write.m writeI
  rw [right9_eq hl hx, Option.bind_some]
  by_cases he : errI o n = .nil
  · rw [if_pos he, if_pos he, bare_eq, Option.bind_some]
    unfold errI at he
    cases ha : aidC o.Aid with
    | false => rw [ha] at he; simp at he
    | true =>
      rw [ha] at he
      simp only [if_true] at he
      cases hb : bareC o.Aid with
      | true => rfl
      | false =>
        rw [hb] at he
        simp only [Bool.false_eq_true, if_false, cond_false] at he ⊢
        by_cases hc : o.Cursor < 0 ∨ o.Cursor ≥ n
        · rw [if_pos hc] at he; simp at he
        rw [if_neg hc] at he
        have hfw : fW n (o.Fields.length == 1) 0 o.Fields = none := by
          cases hq : fW n (o.Fields.length == 1) 0 o.Fields with
          | none => rfl
          | some q => rw [hq] at he; simp at he
        have hr : ∀ f ∈ o.Fields, f.Addr = -1 ∨ (0 ≤ f.Addr ∧ f.Addr < n) := by
          intro f hf
          rcases fields_right hfw with ⟨t, e, _, _⟩ | r
          · rw [e] at hf; simp at hf; subst hf; exact .inl rfl
          · exact .inr ⟨(r f hf).lo, (r f hf).hi⟩
        rw [place_eq n1 n2 (by omega) (by omega), Option.bind_some, app_ok (by simp only [List.length_singleton, put_len]; omega), Option.bind_some,
          write_loop9 n1 n2 hr hl KK 0 _ (by omega) (by omega) (by unfold KK; omega) (by simp only [List.length_append, List.length_singleton, put_len, Int.toNat_zero, List.drop_zero]; omega), Option.bind_some]
        simp only [Int.toNat_zero, List.drop_zero, List.length_append, List.length_singleton, put_len]
        by_cases h9 : 3 + (flatF o.Fields n).length > 8192
        · rw [if_pos h9, if_pos (by omega)]
        · rw [if_neg h9, if_neg (by omega)]
          simp
  · rw [if_neg he, if_neg he]
def lettersC (c : bytes_Cursor) : List Int × bytes_Cursor :=
  if c.err' = .nil then ((c.b'.drop c.at'.toNat).takeWhile ltr, ⟨c.b', c.at' + cntL (c.b'.drop c.at'.toNat), .nil⟩) else ([], c)
theorem letters_loop {b : List Int} (w : ∀ y ∈ b, Wf .u8 y) (hb : b.length ≤ 100000) : ∀ (k : Nat) (p : Int) (acc : List Int), 0 ≤ p → p ≤ (b.length : Int) → (b.length : Int) - p + 1 < k → (acc.length : Int) ≤ p →
    input_letters.l1.m KK k acc (if p < (b.length : Int) then at_ b p else 0) (decide (p < (b.length : Int))) b p .nil = some (acc ++ (b.drop p.toNat).takeWhile ltr, b, p + cntL (b.drop p.toNat), .nil) := by
  intro k
  induction k with
  | zero => intro p acc h0 h1 h2; omega
  | succ k ih =>
    intro p acc h0 h1 h2 h3
    rw [input_letters.l1.m]
    by_cases hp : p < (b.length : Int)
    · have ok : CurOk ⟨b, p, .nil⟩ := ⟨h0, h1, hb, w⟩
      have ok1 : CurOk ⟨b, p + 1, .nil⟩ := ⟨by simp only; omega, by simp only; omega, hb, w⟩
      rw [if_pos hp, drop_at h0 hp, cntL_cons, List.takeWhile_cons]
      simp only [hp, decide_true, cond_true, letter_eq, Option.bind_some]
      cases hc : ltr (at_ b p) with
      | false => simp
      | true =>
        simp only [cond_true, byte_ok ok hp, Option.bind_some, if_true]
        rw [app_ok (by simp only [List.length_singleton]; omega), Option.bind_some, peek_eq ok1, Option.bind_some]
        simp only [true_and]
        have i := ih (p + 1) (acc ++ [at_ b p]) (by omega) (by omega) (by omega) (by simp only [List.length_append, List.length_singleton]; omega)
        by_cases hq : p + 1 < (b.length : Int)
        · simp only [hq, if_true, decide_true, cond_true] at i ⊢
          rw [i, List.append_assoc]
          congr 4
          omega
        · simp only [hq, if_false, decide_false, cond_false] at i ⊢
          rw [i, List.append_assoc]
          congr 4
          omega
    · have hp' : p = (b.length : Int) := by omega
      rw [drop_nil hp', if_neg hp]
      simp [hp, cntL]
theorem letters_eq {c : bytes_Cursor} (k : CurOk c) : input_letters.m KK c = some (lettersC c) := by
  obtain ⟨b, p, e⟩ := c
  have h0 := k.h0; have h1 := k.h1; have h2 := k.h2
  simp only at h0 h1 h2
  unfold input_letters.m lettersC
  simp only [letJ, peek_eq k, Option.bind_some]
  by_cases he : e = .nil
  · subst he
    have hloop : ∀ l : List Int, ∃ m, KK = m + 1 := fun _ => ⟨KK - 1, rfl⟩
    have i := letters_loop (b := b) k.u8 h2 KK p [] h0 h1 (by unfold KK; omega) (by simp; omega)
    simp only [true_and, if_true]
    by_cases hp : p < (b.length : Int)
    · simp only [hp, if_true, decide_true, cond_true] at i ⊢
      rw [i]; rfl
    · simp only [hp, if_false, decide_false, cond_false] at i ⊢
      rw [i]; rfl
  · simp only [he, false_and, if_false, cond_false]
    have : KK = (KK - 1) + 1 := rfl
    rw [this, input_letters.l1.m]
    rfl
theorem lettersC_ok {c : bytes_Cursor} (k : CurOk c) : CurOk (lettersC c).2 := by
  unfold lettersC
  split
  · have := k.h0; have := k.h1
    have hc := cntL_le (c.b'.drop c.at'.toNat)
    rw [List.length_drop] at hc
    exact ⟨by simp only; omega, by simp only; omega, k.h2, k.u8⟩
  · exact k
theorem fields_loop {b : List Int} {n : Int} (w : ∀ y ∈ b, Wf .u8 y) (n1 : 1 ≤ n) (n2 : n ≤ 16383) (hb : b.length ≤ 100000) : ∀ (k : Nat) (p : Int) (acc : List api_Entry), 0 ≤ p → p ≤ (b.length : Int) → (b.length : Int) - p + 1 < k → (acc.length : Int) ≤ p →
    (acc = [] ∨ (at_ acc 0).Addr ≠ -1) →
    ∃ p' e' acc', input_fields.l1.m KK n k acc b p .nil = some (acc', b, p', e') ∧
      ((fd n (b.drop p.toNat)).2.2 = .nil → e' = .nil ∧ acc' = acc ++ (fd n (b.drop p.toNat)).1) ∧ ((fd n (b.drop p.toNat)).2.2 ≠ .nil → e' = .spot (p + ((fd n (b.drop p.toNat)).2.1 : Int)) (fd n (b.drop p.toNat)).2.2) := by
  intro k
  induction k with
  | zero => intro p acc h0 h1 h2; omega
  | succ k ih =>
    intro p acc h0 h1 h2 h3 h5
    have ok : CurOk ⟨b, p, .nil⟩ := ⟨h0, h1, hb, w⟩
    rw [input_fields.l1.m]
    simp only [left_eq ok, Option.bind_some]
    by_cases hp : (b.length : Int) - p > 0
    · have hlt : p < (b.length : Int) := by omega
      have ok1 : CurOk ⟨b, p + 1, .nil⟩ := ⟨by simp only; omega, by simp only; omega, hb, w⟩
      simp only [hp, if_true, err_eq, Option.bind_some, letJ, peek_eq ok, hlt, true_and]
      rw [drop_at h0 hlt, fd_cons]
      have hrun : ∀ (P : Prop) (j : Bool) , True := fun _ _ => trivial
      by_cases hx : at_ b p = 17
      · have body : ∃ p' e' acc', (((bytes_Cursor_Byte.m (⟨b, p, GoErr.nil⟩ : bytes_Cursor)).bind fun t283 => ((bytes_Cursor_Addr.m KK t283.2 n).bind fun t298 => ((input_letters.m KK t298.2).bind fun t313 => ((app acc [(⟨t298.1, t313.1⟩ : api_Entry)]).bind fun l354 => (input_fields.l1.m KK n k l354 t313.2.b' t313.2.at' t313.2.err')))))) = some (acc', b, p', e') ∧
            ((if (getOf (b.drop (p + 1).toNat) n).2 = .nil then (fd n (((b.drop (p + 1).toNat).drop 2).drop (cntL ((b.drop (p + 1).toNat).drop 2)))).2.2 else (getOf (b.drop (p + 1).toNat) n).2) = .nil → e' = .nil ∧ acc' = acc ++ (⟨(getOf (b.drop (p + 1).toNat) n).1, ((b.drop (p + 1).toNat).drop 2).takeWhile ltr⟩ :: (fd n (((b.drop (p + 1).toNat).drop 2).drop (cntL ((b.drop (p + 1).toNat).drop 2)))).1)) ∧
            ((getOf (b.drop (p + 1).toNat) n).2 ≠ .nil → e' = .spot (p + 1) (getOf (b.drop (p + 1).toNat) n).2) ∧
            ((getOf (b.drop (p + 1).toNat) n).2 = .nil → (fd n (((b.drop (p + 1).toNat).drop 2).drop (cntL ((b.drop (p + 1).toNat).drop 2)))).2.2 ≠ .nil → e' = .spot (p + ((3 + cntL ((b.drop (p + 1).toNat).drop 2) + (fd n (((b.drop (p + 1).toNat).drop 2).drop (cntL ((b.drop (p + 1).toNat).drop 2)))).2.1 : Nat) : Int)) (fd n (((b.drop (p + 1).toNat).drop 2).drop (cntL ((b.drop (p + 1).toNat).drop 2)))).2.2) := by
          rw [byte_ok ok hlt, Option.bind_some, addr_eq ok1, Option.bind_some]
          have oka := addrC_ok ok1 n
          rw [letters_eq oka, Option.bind_some, app_ok (by simp only [List.length_singleton]; omega), Option.bind_some]
          by_cases hg : (getOf (b.drop (p + 1).toNat) n).2 = .nil
          · have e1 : addrC ⟨b, p + 1, .nil⟩ n = ((getOf (b.drop (p + 1).toNat) n).1, ⟨b, p + 1 + 2, .nil⟩) := by unfold addrC; simp only [if_true, hg]
            rw [e1] at oka ⊢
            have hd2 : (b.drop (p + 1).toNat).drop 2 = b.drop (p + 1 + 2).toNat := by rw [List.drop_drop]; congr 1; omega
            have e2 : lettersC ⟨b, p + 1 + 2, .nil⟩ = ((b.drop (p + 1 + 2).toNat).takeWhile ltr, ⟨b, p + 1 + 2 + cntL (b.drop (p + 1 + 2).toNat), .nil⟩) := by unfold lettersC; simp only [if_true]
            have okl := lettersC_ok oka
            simp only [e2] at okl ⊢
            have q0 := okl.h0; have q1 := okl.h1
            simp only at q0 q1
            obtain ⟨_, g2, _, _⟩ := putOf_get (fun y hy => w y (List.mem_of_mem_drop hy)) n1 n2 hg
            obtain ⟨p', e', acc', r1, r2, r3⟩ := ih (p + 1 + 2 + cntL (b.drop (p + 1 + 2).toNat)) (acc ++ [⟨(getOf (b.drop (p + 1).toNat) n).1, (b.drop (p + 1 + 2).toNat).takeWhile ltr⟩]) q0 q1 (by omega) (by simp only [List.length_append, List.length_singleton]; omega)
              (by
                right
                rcases h5 with rfl | h5
                · show (getOf (b.drop (p + 1).toNat) n).1 ≠ -1
                  omega
                · cases acc with
                  | nil => show (getOf (b.drop (p + 1).toNat) n).1 ≠ -1; omega
                  | cons x acc => exact h5)
            have hd3 : b.drop (p + 1 + 2 + ((cntL (b.drop (p + 1 + 2).toNat) : Nat) : Int)).toNat = (b.drop (p + 1 + 2).toNat).drop (cntL (b.drop (p + 1 + 2).toNat)) := by rw [List.drop_drop]; congr 1; omega
            rw [hd3] at r2 r3
            rw [hd2]
            refine ⟨p', e', acc', r1, fun h => ?_, fun h => absurd hg h, fun _ h => ?_⟩
            · rw [if_pos hg] at h
              obtain ⟨s1, s2⟩ := r2 h
              exact ⟨s1, by rw [s2, List.append_assoc]; rfl⟩
            · rw [r3 h]; congr 1; omega
          · have e1 : addrC ⟨b, p + 1, .nil⟩ n = (0, ⟨b, p + 1, .spot (p + 1) (getOf (b.drop (p + 1).toNat) n).2⟩) := by unfold addrC; simp only [if_true, hg, if_false]
            rw [e1]
            have e2 : lettersC ⟨b, p + 1, .spot (p + 1) (getOf (b.drop (p + 1).toNat) n).2⟩ = ([], ⟨b, p + 1, .spot (p + 1) (getOf (b.drop (p + 1).toNat) n).2⟩) := by unfold lettersC; simp only [reduceCtorEq, if_false]
            rw [e2]
            cases k with
            | zero => omega
            | succ k =>
              have okx : CurOk ⟨b, p + 1, .spot (p + 1) (getOf (b.drop (p + 1).toNat) n).2⟩ := ⟨by simp only; omega, by simp only; omega, hb, w⟩
              rw [input_fields.l1.m]
              simp only [left_eq okx, Option.bind_some, err_eq, reduceCtorEq, if_false]
              refine ⟨p + 1, _, _, by split <;> rfl, fun h => ?_, fun _ => rfl, fun h => absurd h hg⟩
              rw [if_neg hg] at h
              exact absurd h hg
        have fin : ∃ p' e' acc', (((bytes_Cursor_Byte.m (⟨b, p, GoErr.nil⟩ : bytes_Cursor)).bind fun t283 => ((bytes_Cursor_Addr.m KK t283.2 n).bind fun t298 => ((input_letters.m KK t298.2).bind fun t313 => ((app acc [(⟨t298.1, t313.1⟩ : api_Entry)]).bind fun l354 => (input_fields.l1.m KK n k l354 t313.2.b' t313.2.at' t313.2.err')))))) = some (acc', b, p', e') ∧
            ((if at_ b p = 17 then
        if (getOf (b.drop (p + 1).toNat) n).2 = .nil then
          ((⟨(getOf (b.drop (p + 1).toNat) n).1, ((b.drop (p + 1).toNat).drop 2).takeWhile ltr⟩ : api_Entry) :: (fd n (((b.drop (p + 1).toNat).drop 2).drop (cntL ((b.drop (p + 1).toNat).drop 2)))).1,
            3 + cntL ((b.drop (p + 1).toNat).drop 2) + (fd n (((b.drop (p + 1).toNat).drop 2).drop (cntL ((b.drop (p + 1).toNat).drop 2)))).2.1, (fd n (((b.drop (p + 1).toNat).drop 2).drop (cntL ((b.drop (p + 1).toNat).drop 2)))).2.2)
        else ([], 1, (getOf (b.drop (p + 1).toNat) n).2)
      else ([], 0, .no 3)).2.2 = .nil → e' = .nil ∧ acc' = acc ++ (if at_ b p = 17 then
        if (getOf (b.drop (p + 1).toNat) n).2 = .nil then
          ((⟨(getOf (b.drop (p + 1).toNat) n).1, ((b.drop (p + 1).toNat).drop 2).takeWhile ltr⟩ : api_Entry) :: (fd n (((b.drop (p + 1).toNat).drop 2).drop (cntL ((b.drop (p + 1).toNat).drop 2)))).1,
            3 + cntL ((b.drop (p + 1).toNat).drop 2) + (fd n (((b.drop (p + 1).toNat).drop 2).drop (cntL ((b.drop (p + 1).toNat).drop 2)))).2.1, (fd n (((b.drop (p + 1).toNat).drop 2).drop (cntL ((b.drop (p + 1).toNat).drop 2)))).2.2)
        else ([], 1, (getOf (b.drop (p + 1).toNat) n).2)
      else ([], 0, .no 3)).1) ∧ ((if at_ b p = 17 then
        if (getOf (b.drop (p + 1).toNat) n).2 = .nil then
          ((⟨(getOf (b.drop (p + 1).toNat) n).1, ((b.drop (p + 1).toNat).drop 2).takeWhile ltr⟩ : api_Entry) :: (fd n (((b.drop (p + 1).toNat).drop 2).drop (cntL ((b.drop (p + 1).toNat).drop 2)))).1,
            3 + cntL ((b.drop (p + 1).toNat).drop 2) + (fd n (((b.drop (p + 1).toNat).drop 2).drop (cntL ((b.drop (p + 1).toNat).drop 2)))).2.1, (fd n (((b.drop (p + 1).toNat).drop 2).drop (cntL ((b.drop (p + 1).toNat).drop 2)))).2.2)
        else ([], 1, (getOf (b.drop (p + 1).toNat) n).2)
      else ([], 0, .no 3)).2.2 ≠ .nil → e' = .spot (p + ((if at_ b p = 17 then
        if (getOf (b.drop (p + 1).toNat) n).2 = .nil then
          ((⟨(getOf (b.drop (p + 1).toNat) n).1, ((b.drop (p + 1).toNat).drop 2).takeWhile ltr⟩ : api_Entry) :: (fd n (((b.drop (p + 1).toNat).drop 2).drop (cntL ((b.drop (p + 1).toNat).drop 2)))).1,
            3 + cntL ((b.drop (p + 1).toNat).drop 2) + (fd n (((b.drop (p + 1).toNat).drop 2).drop (cntL ((b.drop (p + 1).toNat).drop 2)))).2.1, (fd n (((b.drop (p + 1).toNat).drop 2).drop (cntL ((b.drop (p + 1).toNat).drop 2)))).2.2)
        else ([], 1, (getOf (b.drop (p + 1).toNat) n).2)
      else ([], 0, .no 3)).2.1 : Int)) (if at_ b p = 17 then
        if (getOf (b.drop (p + 1).toNat) n).2 = .nil then
          ((⟨(getOf (b.drop (p + 1).toNat) n).1, ((b.drop (p + 1).toNat).drop 2).takeWhile ltr⟩ : api_Entry) :: (fd n (((b.drop (p + 1).toNat).drop 2).drop (cntL ((b.drop (p + 1).toNat).drop 2)))).1,
            3 + cntL ((b.drop (p + 1).toNat).drop 2) + (fd n (((b.drop (p + 1).toNat).drop 2).drop (cntL ((b.drop (p + 1).toNat).drop 2)))).2.1, (fd n (((b.drop (p + 1).toNat).drop 2).drop (cntL ((b.drop (p + 1).toNat).drop 2)))).2.2)
        else ([], 1, (getOf (b.drop (p + 1).toNat) n).2)
      else ([], 0, .no 3)).2.2) := by
          obtain ⟨p', e', acc', r1, r2, r3, r4⟩ := body
          refine ⟨p', e', acc', r1, ?_⟩
          rw [if_pos hx]
          by_cases hg : (getOf (b.drop (p + 1).toNat) n).2 = .nil
          · rw [if_pos hg] at r2 ⊢
            exact ⟨r2, r4 hg⟩
          · rw [if_neg hg] at r2 ⊢
            exact ⟨fun h => absurd h hg, fun _ => r3 hg⟩
        rw [if_pos hx] at fin ⊢
        simp only [hx, if_true]
        rcases h5 with rfl | h5
        · simp only [List.length_nil, Int.natCast_zero, gt_iff_lt, Int.lt_irrefl, if_false]
          exact fin
        · by_cases hz : (acc.length : Int) > 0
          · simp only [hz, if_true, h5, if_false]
            exact fin
          · simp only [hz, if_false]
            exact fin
      · simp only [hx, if_false, fail_eq, Option.bind_some]
        unfold failC
        exact ⟨p, .spot p (.no 3), acc, by simp, fun h => by simp at h, fun _ => by simp⟩
    · have hp' : p = (b.length : Int) := by omega
      rw [drop_nil hp', fd_nil]
      simp only [hp, if_false]
      exact ⟨p, .nil, acc, rfl, fun _ => ⟨rfl, by simp⟩, fun h => absurd rfl h⟩
end Go.Proofs.YtfkdbplnjlkcdaaGreatDoor.Sx
