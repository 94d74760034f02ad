import Derived.Test.YtjkbhpokboolpaaGreatDoorPF
namespace Go.Proofs.YtjkbhpokboolpaaGreatDoor.Sx
open Go
def ltr (b : Int) : Bool := b != 0 && chr b
def cntL (l : List Int) : Nat := (l.takeWhile ltr).length
theorem cntL_cons (x : Int) (l : List Int) : cntL (x :: l) = if ltr x = true then cntL l + 1 else 0 := by
  unfold cntL
  rw [List.takeWhile_cons]
  split <;> simp
def fdS (n : Int) : Nat → List Int → List api_Entry × Nat × GoErr
  | 0, _ => ([], 0, .nil)
  | k + 1, s => match s with
    | [] => ([], 0, .nil)
    | x :: r => if x = 17 then
        if (getOf r n).2 = .nil then
          (⟨(getOf r n).1, (r.drop 2).takeWhile ltr⟩ :: (fdS n k ((r.drop 2).drop (cntL (r.drop 2)))).1,
            3 + cntL (r.drop 2) + (fdS n k ((r.drop 2).drop (cntL (r.drop 2)))).2.1, (fdS n k ((r.drop 2).drop (cntL (r.drop 2)))).2.2)
        else ([], 1, (getOf r n).2)
      else ([], 0, .no 3)
def fd (n : Int) (s : List Int) : List api_Entry × Nat × GoErr := fdS n s.length s
def putF (f : api_Entry) (n : Int) : List Int := (if f.Addr = -1 then [] else 17 :: putOf f.Addr n) ++ f.Text
def flatF (l : List api_Entry) (n : Int) : List Int := (l.map (fun f => putF f n)).flatten
theorem flatF_cons (f : api_Entry) (l : List api_Entry) (n : Int) : flatF (f :: l) n = putF f n ++ flatF l n := by unfold flatF; rw [List.map_cons, List.flatten_cons]
structure RightF (f : api_Entry) (n : Int) : Prop where
  lo : 0 ≤ f.Addr
  hi : f.Addr < n
  text : f.Text.all ltr = true
end Go.Proofs.YtjkbhpokboolpaaGreatDoor.Sx

namespace Go.Proofs.YtjkbhpokboolpaaGreatDoor.Sx
open Go
def bareC (c : Int) : Bool := c == 109 || c == 108 || c == 110 || c == 107
def aidC (c : Int) : Bool := bareC c || c == 125 || (decide (241 ≤ c) && decide (c ≤ 249)) || (decide (122 ≤ c) && decide (c ≤ 124))
def wrongF (f : api_Entry) (single : Bool) (n : Int) : Int :=
  if (!(single && f.Addr == -1) && (decide (f.Addr < 0) || decide (f.Addr ≥ n))) = true then 4 else if f.Text.all ltr = false then 3 else if ((single && f.Addr == -1) && f.Text.isEmpty) = true then 1 else 0
def fW (n : Int) (single : Bool) : Int → List api_Entry → Option (Int × Int)
  | _, [] => none
  | i, f :: l => if wrongF f single n ≠ 0 then some (i, wrongF f single n) else fW n single (i + 1) l
def zIn : api_In := ⟨0, 0, []⟩
def errI (o : api_In) (n : Int) : GoErr :=
  if aidC o.Aid then
    if bareC o.Aid then (if o.Cursor ≠ 0 ∨ o.Fields ≠ [] then .no 1 else .nil)
    else if o.Cursor < 0 ∨ o.Cursor ≥ n then .no 4
    else match fW n (o.Fields.length == 1) 0 o.Fields with
      | some (i, k) => .spot i (.no k)
      | none => .nil
  else .no 3
def writeI (o : api_In) (n : Int) : List Int × GoErr :=
  if errI o n = .nil then
    if bareC o.Aid then ([o.Aid], .nil)
    else if 3 + (flatF o.Fields n).length > 8192 then ([], .no 6) else (o.Aid :: (putOf o.Cursor n ++ flatF o.Fields n), .nil)
  else ([], errI o n)
def readI (b : List Int) (n : Int) : api_In × GoErr :=
  if (b.length : Int) > 8192 then (zIn, .spot 8192 (.no 6)) else
  match b with
  | [] => (zIn, .spot 0 (.no 2))
  | c :: r => if aidC c then
      if bareC c then (if r = [] then (⟨c, 0, []⟩, .nil) else (zIn, .spot 1 (.no 1)))
      else if (getOf r n).2 = .nil then
        if cntL (r.drop 2) = 0 then
          if (fd n (r.drop 2)).2.2 = .nil then (⟨c, (getOf r n).1, (fd n (r.drop 2)).1⟩, .nil) else (zIn, .spot (3 + ((fd n (r.drop 2)).2.1 : Int)) (.no (codeOf (fd n (r.drop 2)).2.2)))
        else if cntL (r.drop 2) < (r.drop 2).length then (zIn, .spot (3 + (cntL (r.drop 2) : Int)) (.no 3)) else (⟨c, (getOf r n).1, [⟨-1, r.drop 2⟩]⟩, .nil)
      else (zIn, .spot 1 (.no (codeOf (getOf r n).2)))
    else (zIn, .spot 0 (.no 3))
theorem wrongF_zero {f : api_Entry} {s : Bool} {n : Int} (h : wrongF f s n = 0) : (s = true ∧ f.Addr = -1 ∧ f.Text ≠ [] ∧ f.Text.all ltr = true) ∨ RightF f n := by
  unfold wrongF at h
  split at h
  · omega
  rename_i h1
  split at h
  · omega
  rename_i h2
  split at h
  · omega
  rename_i h3
  have h2' : f.Text.all ltr = true := by simpa using h2
  cases hf : (s && f.Addr == -1) with
  | true =>
    rw [hf] at h3
    simp only [Bool.and_eq_true, beq_iff_eq] at hf
    exact .inl ⟨hf.1, hf.2, by simpa using h3, h2'⟩
  | false =>
    rw [hf] at h1
    simp at h1
    exact .inr ⟨by omega, by omega, h2'⟩
theorem fW_none {n : Int} {s : Bool} : ∀ (l : List api_Entry) (i : Int), fW n s i l = none ↔ ∀ f ∈ l, wrongF f s n = 0 := by
  intro l
  induction l with
  | nil => intro i; simp [fW]
  | cons f l ih =>
    intro i
    unfold fW
    by_cases h : wrongF f s n = 0
    · rw [if_neg (by simp [h]), ih]
      simp [h]
    · rw [if_pos h]
      simp [h]
theorem fields_right {l : List api_Entry} {n : Int} (h : fW n (l.length == 1) 0 l = none) : (∃ t, l = [⟨-1, t⟩] ∧ t ≠ [] ∧ t.all ltr = true) ∨ ∀ f ∈ l, RightF f n := by
  have h := (fW_none l 0).1 h
  by_cases h1 : l.length = 1
  · cases l with
    | nil => simp at h1
    | cons f l =>
      cases l with
      | cons g l => simp at h1
      | nil =>
        rcases wrongF_zero (h f (by simp)) with ⟨_, ha, hb, hc⟩ | r
        · obtain ⟨a, t⟩ := f
          simp only at ha hb hc
          subst ha
          exact .inl ⟨t, rfl, hb, hc⟩
        · refine .inr fun g hg => ?_
          simp at hg
          subst hg
          exact r
  · refine .inr fun f hf => ?_
    rcases wrongF_zero (h f hf) with ⟨ha, _⟩ | r
    · simp at ha; exact absurd ha h1
    · exact r
end Go.Proofs.YtjkbhpokboolpaaGreatDoor.Sx

namespace Go.Proofs.YtjkbhpokboolpaaGreatDoor.Sx
open Go
theorem putF_len (f : api_Entry) (n : Int) : (putF f n).length = f.Text.length + if f.Addr = -1 then 0 else 3 := by
  unfold putF
  split
  · simp
  · simp only [List.length_append, List.length_cons, put_len]; omega
end Go.Proofs.YtjkbhpokboolpaaGreatDoor.Sx

namespace Go.Proofs.YtjkbhpokboolpaaGreatDoor.Sx
open Go
theorem bare_eq (c : Int) : attr_Bare.m c = some (bareC c) := by
  unfold attr_Bare.m bareC
  by_cases h1 : c = 109
  · subst h1; rfl
  by_cases h2 : c = 108
  · subst h2; rfl
  by_cases h3 : c = 110
  · subst h3; rfl
  by_cases h4 : c = 107
  · subst h4; rfl
  have e1 : (c == 109) = false := by simpa using h1
  have e2 : (c == 108) = false := by simpa using h2
  have e3 : (c == 110) = false := by simpa using h3
  have e4 : (c == 107) = false := by simpa using h4
  rw [if_neg h2, if_neg h3, if_neg h4, if_neg h1, e1, e2, e3, e4]; rfl
theorem refbare_eq (c : Int) : shutterref05_Bare.m c = some (bareC c) := by
  unfold shutterref05_Bare.m bareC
  by_cases h1 : c = 109
  · subst h1; rfl
  by_cases h2 : c = 108
  · subst h2; rfl
  by_cases h3 : c = 110
  · subst h3; rfl
  have e1 : (c == 109) = false := by simpa using h1
  have e2 : (c == 108) = false := by simpa using h2
  have e3 : (c == 110) = false := by simpa using h3
  rw [if_neg h1, if_neg h2, if_neg h3, e1, e2, e3]; rfl
theorem aid_eq (c : Int) : attr_Aid.m c = some (aidC c) := by
  unfold attr_Aid.m aidC
  rw [bare_eq, Option.bind_some]
  cases bareC c with
  | true => rfl
  | false =>
    rw [cond_false]
    by_cases h1 : c = 125
    · subst h1; rfl
    have e1 : (c == 125) = false := by simpa using h1
    rw [if_neg h1, e1]
    by_cases h2 : c ≥ 241 <;> by_cases h3 : c ≤ 249 <;> by_cases h4 : c ≥ 122 <;> simp [h2, h3, h4] <;> omega
theorem refaid_eq (c : Int) : shutterref05_Aid.m c = some (aidC c) := by
  unfold shutterref05_Aid.m aidC
  rw [refbare_eq, Option.bind_some]
  cases bareC c with
  | true => rfl
  | false =>
    rw [cond_false]
    by_cases h1 : c = 125
    · subst h1; rfl
    have e1 : (c == 125) = false := by simpa using h1
    rw [if_neg h1, e1]
    by_cases h2 : c ≥ 241 <;> by_cases h3 : c ≤ 249 <;> by_cases h4 : c ≥ 122 <;> simp [h2, h3, h4] <;> omega
theorem letter_eq (b : Int) : input_letter.m b = some (ltr b) := by
  unfold input_letter.m ltr
  by_cases h : b = 0
  · subst h; rfl
  · have e : (b != 0) = true := by simpa using h
    rw [if_neg h, char_eq, e]; rfl
theorem strange_eq (b : Int) : input_strange.m b = some (!ltr b) := by
  unfold input_strange.m; rw [letter_eq]; rfl
theorem indexl_eq {l : List Int} (hl : l.length ≤ 100000) : slices_IndexFunc_bytes__input_strange.m KK l = some (if cntL l < l.length then (cntL l : Int) else -1) := by
  have step : ∀ (k : Nat) (i : Int), 0 ≤ i → i ≤ (l.length : Int) → (l.length : Int) - i < k →
      slices_IndexFunc_bytes__input_strange.l1.m KK l k i = some (if i + cntL (l.drop i.toNat) < l.length then .inl (i + cntL (l.drop i.toNat)) else .inr ()) := by
    intro k
    induction k with
    | zero => intro i h0 h1 h2; omega
    | succ k ih =>
      intro i h0 h1 h2
      rw [slices_IndexFunc_bytes__input_strange.l1.m]
      by_cases h3 : i < (l.length : Int)
      · simp only [letJ, h3, h0, if_true, cond_true, strange_eq, Option.bind_some]
        rw [drop_at h0 h3, cntL_cons]
        cases hc : ltr (at_ l i) with
        | false => simp [h3]
        | true =>
          simp only [Bool.not_true, cond_false, if_true]
          rw [w64_id (n := i + 1) (by omega) (by omega), ih (i + 1) (by omega) (by omega) (by omega)]
          have : i + 1 + ((cntL (List.drop (i + 1).toNat l) : Nat) : Int) = i + ((cntL (List.drop (i + 1).toNat l) + 1 : Nat) : Int) := by omega
          rw [this]
      · have : i = (l.length : Int) := by omega
        subst this
        simp [letJ, cntL]
  unfold slices_IndexFunc_bytes__input_strange.m
  rw [step KK 0 (by omega) (by omega) (by unfold KK; omega), Option.bind_some]
  simp only [Int.toNat_zero, List.drop_zero, Int.zero_add]
  by_cases h : cntL l < l.length
  · rw [if_pos (by omega), if_pos h]
  · rw [if_neg (by omega), if_neg h]
theorem cntL_lt {l : List Int} : cntL l < l.length ↔ l.all ltr = false := by
  induction l with
  | nil => simp [cntL]
  | cons x l ih =>
    rw [cntL_cons, List.all_cons, List.length_cons]
    cases hc : ltr x with
    | false => simp
    | true => simp only [if_true, Nat.add_lt_add_iff_right, Bool.true_and]; exact ih
theorem containsl_eq {l : List Int} (hl : l.length ≤ 100000) : slices_ContainsFunc_bytes__input_strange.m KK l = some (!l.all ltr) := by
  unfold slices_ContainsFunc_bytes__input_strange.m
  rw [indexl_eq hl, Option.bind_some]
  by_cases h : cntL l < l.length
  · rw [if_pos h, cntL_lt.1 h]; simp
  · rw [if_neg h]
    have : l.all ltr = true := by
      cases h' : l.all ltr with
      | true => rfl
      | false => exact absurd (cntL_lt.2 h') h
    rw [this]; rfl
theorem ispot_eq (a : Int) (e : GoErr) : input_spot.m a e = some (.spot a e) := rfl
def errF (k : Int) : GoErr := if k = 0 then .nil else .no k
theorem field_eq {f : api_Entry} {s : Bool} {n : Int} (ht : f.Text.length ≤ 100000) : input_field.m KK f s n = some (errF (wrongF f s n)) := by
  unfold input_field.m wrongF
  simp only [letJ, containsl_eq ht, Option.bind_some]
  have hem : ((f.Text.length : Int) = 0) ↔ f.Text.isEmpty = true := by cases f.Text <;> simp <;> omega
  by_cases ha : f.Addr = -1
  · have e : (f.Addr == -1) = true := by simpa using ha
    have h0 : f.Addr < 0 := by omega
    rw [e]
    cases s with
    | true =>
      simp only [ha, if_true, cond_true, Bool.and_true, Bool.not_true, Bool.false_and, Bool.true_and, Bool.false_eq_true, if_false, cond_false]
      cases hq : f.Text.all ltr with
      | false => rfl
      | true =>
        simp only [Bool.not_true, cond_false, hem]
        by_cases h : f.Text.isEmpty = true
        · rw [if_pos h]; simp [h]; rfl
        · rw [if_neg h]; simp [h]; rfl
    | false =>
      simp [ha]; rfl
  · have e : (f.Addr == -1) = false := by simpa using ha
    rw [e]
    have : (bif s then (if f.Addr = -1 then true else false) else false) = false := by cases s <;> simp [ha]
    have e2 : ∀ {α : Type} (x y : α), (bif s then (if f.Addr = -1 then x else y) else y) = y := by intro α x y; cases s <;> simp [ha]
    simp only [e2, cond_false, Bool.and_false, Bool.not_false, Bool.true_and]
    by_cases h1 : f.Addr < 0
    · simp [h1]; rfl
    · by_cases h2 : f.Addr ≥ n
      · simp [h1, h2]; rfl
      · simp only [h1, h2, if_false, decide_false, Bool.or_false, Bool.false_eq_true, cond_false]
        cases hq : f.Text.all ltr with
        | false => rfl
        | true => rfl
theorem errF_nil {k : Int} : errF k = .nil ↔ k = 0 := by
  unfold errF; split
  · rename_i h; simp [h]
  · rename_i h; simp [h]
theorem right_loop9 {o : api_In} {n : Int} (hl : o.Fields.length ≤ 100000) (hx : ∀ f ∈ o.Fields, f.Text.length ≤ 100000) : ∀ (k : Nat) (i : Int), 0 ≤ i → i ≤ (o.Fields.length : Int) → (o.Fields.length : Int) - i < k →
    input_Right.l1.m KK o n k i = some (match fW n (o.Fields.length == 1) i (o.Fields.drop i.toNat) with | some (j, w) => .inl (.spot j (.no w)) | none => .inr ()) := by
  intro k
  induction k with
  | zero => intro i h0 h1 h2; omega
  | succ k ih =>
    intro i h0 h1 h2
    rw [input_Right.l1.m]
    simp only [letJ]
    by_cases h3 : i < (o.Fields.length : Int)
    · have hm : at_ o.Fields i ∈ o.Fields := by rw [at_eq (hi := by omega)]; exact List.getElem_mem _
      have e1 : ((o.Fields.length : Int) == 1) = (o.Fields.length == 1) := by
        rw [Bool.eq_iff_iff]; simp; omega
      have hd : o.Fields.drop i.toNat = at_ o.Fields i :: o.Fields.drop (i + 1).toNat := by
        rw [List.drop_eq_getElem_cons (by omega), at_eq (hi := by omega)]
        congr 2; omega
      simp only [h3, if_true, cond_true, h0, field_eq (hx _ hm), Option.bind_some, e1, errF_nil]
      rw [hd, fW]
      by_cases hw : wrongF (at_ o.Fields i) (o.Fields.length == 1) n = 0
      · rw [if_pos hw, if_neg (by simp [hw]), w64_id (n := i + 1) (by omega) (by omega), ih (i + 1) (by omega) (by omega) (by omega)]
      · rw [if_neg hw, if_pos hw, ispot_eq, Option.bind_some]
        unfold errF
        rw [if_neg hw]
    · simp only [h3, if_false, cond_false]
      rw [List.drop_eq_nil_of_le (by omega), fW]
theorem right9_eq {o : api_In} {n : Int} (hl : o.Fields.length ≤ 100000) (hx : ∀ f ∈ o.Fields, f.Text.length ≤ 100000) : input_Right.m KK o n = some (errI o n) := by
  unfold input_Right.m errI
  simp only [letJ, aid_eq, bare_eq, Option.bind_some]
  have hf : ((o.Fields.length : Int) > 0) ↔ o.Fields ≠ [] := by cases o.Fields <;> simp
  cases ha : aidC o.Aid with
  | false => rfl
  | true =>
    simp only [cond_true, cond_false, if_true]
    cases hb : bareC o.Aid with
    | true =>
      simp only [cond_true, if_true]
      by_cases h1 : o.Cursor = 0
      · rw [if_pos h1]
        by_cases h2 : o.Fields = []
        · rw [if_neg (by rw [hf]; simp [h2]), if_neg (by simp [h1, h2])]
        · rw [if_pos (hf.2 h2), if_pos (.inr h2)]
      · rw [if_neg h1, if_pos (.inl h1)]
    | false =>
      simp only [cond_false, Bool.false_eq_true, if_false]
      by_cases h1 : o.Cursor < 0
      · simp [h1]
      · by_cases h2 : o.Cursor ≥ n
        · simp [h1, h2]
        · rw [if_neg h1, if_neg h2, if_neg (by omega), right_loop9 hl hx KK 0 (by omega) (by omega) (by unfold KK; omega)]
          simp only [Int.toNat_zero, List.drop_zero]
          cases hq : fW n (o.Fields.length == 1) 0 o.Fields with
          | none => rfl
          | some q => rfl
theorem place_eq {a n : Int} (n1 : 1 ≤ n) (n2 : n ≤ 16383) (h0 : 0 ≤ a) (h1 : a < n) : input_place.m KK a n = some (putOf a n) := by
  unfold input_place.m; rw [put04 n1 n2 h0 h1]; rfl
theorem write_loop9 {o : api_In} {n : Int} (n1 : 1 ≤ n) (n2 : n ≤ 16383) (hr : ∀ f ∈ o.Fields, f.Addr = -1 ∨ (0 ≤ f.Addr ∧ f.Addr < n)) (hl : o.Fields.length ≤ 100000) : ∀ (k : Nat) (i : Int) (acc : List Int), 0 ≤ i → i ≤ (o.Fields.length : Int) → (o.Fields.length : Int) - i < k →
    acc.length + (flatF (o.Fields.drop i.toNat) n).length ≤ 900000 →
    input_Write.l1.m KK o n k acc i = some (acc ++ flatF (o.Fields.drop i.toNat) n) := by
  intro k
  induction k with
  | zero => intro i acc h0 h1 h2; omega
  | succ k ih =>
    intro i acc h0 h1 h2 h4
    rw [input_Write.l1.m]
    simp only [letJ]
    by_cases h3 : i < (o.Fields.length : Int)
    · have hm : at_ o.Fields i ∈ o.Fields := by rw [at_eq (hi := by omega)]; exact List.getElem_mem _
      have hd : o.Fields.drop i.toNat = at_ o.Fields i :: o.Fields.drop (i + 1).toNat := by
        rw [List.drop_eq_getElem_cons (by omega), at_eq (hi := by omega)]
        congr 2; omega
      rw [hd, flatF_cons] at h4 ⊢
      simp only [List.length_append] at h4
      have hpl := putF_len (at_ o.Fields i) n
      simp only [h3, if_true, cond_true, h0]
      by_cases ha : (at_ o.Fields i).Addr = -1
      · have hpf : putF (at_ o.Fields i) n = (at_ o.Fields i).Text := by unfold putF; rw [if_pos ha]; rfl
        rw [hpf] at h4 ⊢
        simp only [ha, if_true, cond_false]
        rw [app_ok (by omega), Option.bind_some, w64_id (n := i + 1) (by omega) (by omega), ih (i + 1) _ (by omega) (by omega) (by omega) (by simp only [List.length_append]; omega)]
        simp
      · have hpf : putF (at_ o.Fields i) n = 17 :: (putOf (at_ o.Fields i).Addr n ++ (at_ o.Fields i).Text) := by unfold putF; rw [if_neg ha]; rfl
        rw [if_neg ha] at hpl
        have hq := (hr _ hm).resolve_left ha
        simp only [ha, if_false, cond_true]
        rw [app_ok (by simp only [List.length_singleton]; omega), Option.bind_some, place_eq n1 n2 hq.1 hq.2, Option.bind_some, app_ok (by simp only [List.length_append, List.length_singleton, put_len]; omega), Option.bind_some, app_ok (by simp only [List.length_append, List.length_singleton, put_len]; omega), Option.bind_some,
          w64_id (n := i + 1) (by omega) (by omega), ih (i + 1) _ (by omega) (by omega) (by omega) (by simp only [List.length_append, List.length_singleton, put_len]; omega), hpf]
        simp
    · simp only [h3, if_false, cond_false]
      rw [List.drop_eq_nil_of_le (by omega)]
      simp [flatF]
theorem write9_eq {o : api_In} {n : Int} (n1 : 1 ≤ n) (n2 : n ≤ 16383) (hl : o.Fields.length ≤ 100000) (hx : ∀ f ∈ o.Fields, f.Text.length ≤ 100000) (ht : (flatF o.Fields n).length ≤ 800000) : input_Write.m KK o n = some (writeI o n) := by
  unfold input_Write.m writeI
  rw [right9_eq hl hx, Option.bind_some]
  by_cases he : errI o n = .nil
  · rw [if_pos he, if_pos he, bare_eq, Option.bind_some]
    unfold errI at he
    cases ha : aidC o.Aid with
    | false => rw [ha] at he; simp at he
    | true =>
      rw [ha] at he
      simp only [if_true] at he
      cases hb : bareC o.Aid with
      | true => rfl
      | false =>
        rw [hb] at he
        simp only [Bool.false_eq_true, if_false, cond_false] at he ⊢
        by_cases hc : o.Cursor < 0 ∨ o.Cursor ≥ n
        · rw [if_pos hc] at he; simp at he
        rw [if_neg hc] at he
        have hfw : fW n (o.Fields.length == 1) 0 o.Fields = none := by
          cases hq : fW n (o.Fields.length == 1) 0 o.Fields with
          | none => rfl
          | some q => rw [hq] at he; simp at he
        have hr : ∀ f ∈ o.Fields, f.Addr = -1 ∨ (0 ≤ f.Addr ∧ f.Addr < n) := by
          intro f hf
          rcases fields_right hfw with ⟨t, e, _, _⟩ | r
          · rw [e] at hf; simp at hf; subst hf; exact .inl rfl
          · exact .inr ⟨(r f hf).lo, (r f hf).hi⟩
        rw [place_eq n1 n2 (by omega) (by omega), Option.bind_some, app_ok (by simp only [List.length_singleton, put_len]; omega), Option.bind_some,
          write_loop9 n1 n2 hr hl KK 0 _ (by omega) (by omega) (by unfold KK; omega) (by simp only [List.length_append, List.length_singleton, put_len, Int.toNat_zero, List.drop_zero]; omega), Option.bind_some]
        simp only [Int.toNat_zero, List.drop_zero, List.length_append, List.length_singleton, put_len]
        by_cases h9 : 3 + (flatF o.Fields n).length > 8192
        · rw [if_pos h9, if_pos (by omega)]
        · rw [if_neg h9, if_neg (by omega)]
          simp
  · rw [if_neg he, if_neg he]
def lettersC (c : bytes_Cursor) : List Int × bytes_Cursor :=
  if c.err' = .nil then ((c.b'.drop c.at'.toNat).takeWhile ltr, ⟨c.b', c.at' + cntL (c.b'.drop c.at'.toNat), .nil⟩) else ([], c)
end Go.Proofs.YtjkbhpokboolpaaGreatDoor.Sx

namespace Go.Proofs.YtjkbhpokboolpaaGreatDoor.Sx
open Go
theorem wf8i {x : Int} (h0 : 0 ≤ x) (h1 : x ≤ 255) : Wf .u8 x := by
  unfold Wf
  simp [Lit.wf, IntKind.min, IntKind.max, IntKind.signed, IntKind.bits]
  omega
end Go.Proofs.YtjkbhpokboolpaaGreatDoor.Sx
