import Derived.Test.YtfkdbplnjlkcdaaGreatDoorPE
namespace Go.Proofs.YtfkdbplnjlkcdaaGreatDoor.Sx
open Go
def ltr (b : Int) : Bool := b != 0 && chr b
def cntL (l : List Int) : Nat := (l.takeWhile ltr).length
theorem cntL_cons (x : Int) (l : List Int) : cntL (x :: l) = if ltr x = true then cntL l + 1 else 0 := by
  unfold cntL
  rw [List.takeWhile_cons]
  split <;> simp
theorem cntL_le (l : List Int) : cntL l ≤ l.length := by
  induction l with
  | nil => simp [cntL]
  | cons x l ih => rw [cntL_cons, List.length_cons]; split <;> omega
theorem takeL (l : List Int) : l.take (cntL l) = l.takeWhile ltr := by
  induction l with
  | nil => rfl
  | cons x l ih =>
    rw [cntL_cons, List.takeWhile_cons]
    split
    · rw [List.take_succ_cons, ih]
    · rfl
theorem cntL_app {t s : List Int} (h : t.all ltr = true) (hs : cntL s = 0) : cntL (t ++ s) = t.length := by
  induction t with
  | nil => simpa using hs
  | cons x t ih =>
    simp only [List.all_cons, Bool.and_eq_true] at h
    rw [List.cons_append, cntL_cons, if_pos h.1, ih h.2, List.length_cons]
def fdS (n : Int) : Nat → List Int → List api_Entry × Nat × GoErr
  | 0, _ => ([], 0, .nil)
  | k + 1, s => match s with
    | [] => ([], 0, .nil)
    | x :: r => if x = 17 then
        if (getOf r n).2 = .nil then
          (⟨(getOf r n).1, (r.drop 2).takeWhile ltr⟩ :: (fdS n k ((r.drop 2).drop (cntL (r.drop 2)))).1,
            3 + cntL (r.drop 2) + (fdS n k ((r.drop 2).drop (cntL (r.drop 2)))).2.1, (fdS n k ((r.drop 2).drop (cntL (r.drop 2)))).2.2)
        else ([], 1, (getOf r n).2)
      else ([], 0, .no 3)
def fd (n : Int) (s : List Int) : List api_Entry × Nat × GoErr := fdS n s.length s
theorem fdS_fuel {n : Int} : ∀ (k m : Nat) (s : List Int), s.length ≤ k → s.length ≤ m → fdS n k s = fdS n m s := by
  intro k
  induction k with
  | zero =>
    intro m s h _
    have : s = [] := List.eq_nil_of_length_eq_zero (by omega)
    subst this
    cases m <;> rfl
  | succ k ih =>
    intro m s h h'
    cases s with
    | nil => cases m <;> rfl
    | cons x r =>
      simp only [List.length_cons] at h h'
      cases m with
      | zero => omega
      | succ m =>
        unfold fdS
        simp only
        rw [ih m ((r.drop 2).drop (cntL (r.drop 2))) (by rw [List.length_drop, List.length_drop]; omega) (by rw [List.length_drop, List.length_drop]; omega)]
theorem fd_nil (n : Int) : fd n [] = ([], 0, .nil) := rfl
theorem fd_cons (n x : Int) (r : List Int) : fd n (x :: r) = if x = 17 then
        if (getOf r n).2 = .nil then
          (⟨(getOf r n).1, (r.drop 2).takeWhile ltr⟩ :: (fd n ((r.drop 2).drop (cntL (r.drop 2)))).1,
            3 + cntL (r.drop 2) + (fd n ((r.drop 2).drop (cntL (r.drop 2)))).2.1, (fd n ((r.drop 2).drop (cntL (r.drop 2)))).2.2)
        else ([], 1, (getOf r n).2)
      else ([], 0, .no 3) := by
  unfold fd
  rw [List.length_cons, fdS]
  rw [fdS_fuel r.length ((r.drop 2).drop (cntL (r.drop 2))).length ((r.drop 2).drop (cntL (r.drop 2))) (by rw [List.length_drop, List.length_drop]; omega) (Nat.le_refl _)]
def putF (f : api_Entry) (n : Int) : List Int := (if f.Addr = -1 then [] else 17 :: putOf f.Addr n) ++ f.Text
def flatF (l : List api_Entry) (n : Int) : List Int := (l.map (fun f => putF f n)).flatten
theorem flatF_cons (f : api_Entry) (l : List api_Entry) (n : Int) : flatF (f :: l) n = putF f n ++ flatF l n := by unfold flatF; rw [List.map_cons, List.flatten_cons]
structure RightF (f : api_Entry) (n : Int) : Prop where
  lo : 0 ≤ f.Addr
  hi : f.Addr < n
  text : f.Text.all ltr = true
theorem flatF_head {l : List api_Entry} {n : Int} (h : ∀ f ∈ l, RightF f n) : cntL (flatF l n) = 0 := by
  cases l with
  | nil => rfl
  | cons f l =>
    have r := h f (by simp)
    have := r.lo
    rw [flatF_cons]
    unfold putF
    rw [if_neg (by omega), List.cons_append, List.cons_append, cntL_cons, if_neg (by decide)]
theorem takeWhile_app {t s : List Int} (h : t.all ltr = true) (hs : cntL s = 0) : (t ++ s).takeWhile ltr = t := by
  rw [← takeL, cntL_app h hs, List.take_left']
  rfl
theorem fd_flat {n : Int} (n1 : 1 ≤ n) (n2 : n ≤ 16383) : ∀ (l : List api_Entry), (∀ f ∈ l, RightF f n) → fd n (flatF l n) = (l, (flatF l n).length, .nil) := by
  intro l
  induction l with
  | nil => intro _; rfl
  | cons f l ih =>
    intro h
    have r := h f (by simp)
    have hlo := r.lo
    have hl : ∀ f ∈ l, RightF f n := fun g hg => h g (by simp [hg])
    have e : flatF (f :: l) n = 17 :: (putOf f.Addr n ++ (f.Text ++ flatF l n)) := by
      rw [flatF_cons]
      unfold putF
      rw [if_neg (by omega)]
      simp
    have d : (putOf f.Addr n ++ (f.Text ++ flatF l n)).drop 2 = f.Text ++ flatF l n := by
      rw [List.drop_left' (put_len _ _)]
    rw [e, fd_cons, if_pos rfl, get_put n1 n2 hlo r.hi, if_pos rfl, d, cntL_app r.text (flatF_head hl), List.drop_left' rfl, takeWhile_app r.text (flatF_head hl), ih hl]
    simp only [List.length_cons, List.length_append, put_len]
    congr 2
    omega
end Go.Proofs.YtfkdbplnjlkcdaaGreatDoor.Sx

namespace Go.Proofs.YtfkdbplnjlkcdaaGreatDoor.Sx
open Go
def bareC (c : Int) : Bool := c == 109 || c == 108 || c == 110 || c == 107
def aidC (c : Int) : Bool := bareC c || c == 125 || (decide (241 ≤ c) && decide (c ≤ 249)) || (decide (122 ≤ c) && decide (c ≤ 124))
def wrongF (f : api_Entry) (single : Bool) (n : Int) : Int :=
  if (!(single && f.Addr == -1) && (decide (f.Addr < 0) || decide (f.Addr ≥ n))) = true then 4 else if f.Text.all ltr = false then 3 else if ((single && f.Addr == -1) && f.Text.isEmpty) = true then 1 else 0
def fW (n : Int) (single : Bool) : Int → List api_Entry → Option (Int × Int)
  | _, [] => none
  | i, f :: l => if wrongF f single n ≠ 0 then some (i, wrongF f single n) else fW n single (i + 1) l
def zIn : api_In := ⟨0, 0, []⟩
def errI (o : api_In) (n : Int) : GoErr :=
  if aidC o.Aid then
    if bareC o.Aid then (if o.Cursor ≠ 0 ∨ o.Fields ≠ [] then .no 1 else .nil)
    else if o.Cursor < 0 ∨ o.Cursor ≥ n then .no 4
    else match fW n (o.Fields.length == 1) 0 o.Fields with
      | some (i, k) => .spot i (.no k)
      | none => .nil
  else .no 3
def writeI (o : api_In) (n : Int) : List Int × GoErr :=
  if errI o n = .nil then
    if bareC o.Aid then ([o.Aid], .nil)
    else if 3 + (flatF o.Fields n).length > 8192 then ([], .no 6) else (o.Aid :: (putOf o.Cursor n ++ flatF o.Fields n), .nil)
  else ([], errI o n)
def readI (b : List Int) (n : Int) : api_In × GoErr :=
  if (b.length : Int) > 8192 then (zIn, .spot 8192 (.no 6)) else
  match b with
  | [] => (zIn, .spot 0 (.no 2))
  | c :: r => if aidC c then
      if bareC c then (if r = [] then (⟨c, 0, []⟩, .nil) else (zIn, .spot 1 (.no 1)))
      else if (getOf r n).2 = .nil then
        if cntL (r.drop 2) = 0 then
          if (fd n (r.drop 2)).2.2 = .nil then (⟨c, (getOf r n).1, (fd n (r.drop 2)).1⟩, .nil) else (zIn, .spot (3 + ((fd n (r.drop 2)).2.1 : Int)) (.no (codeOf (fd n (r.drop 2)).2.2)))
        else if cntL (r.drop 2) < (r.drop 2).length then (zIn, .spot (3 + (cntL (r.drop 2) : Int)) (.no 3)) else (⟨c, (getOf r n).1, [⟨-1, r.drop 2⟩]⟩, .nil)
      else (zIn, .spot 1 (.no (codeOf (getOf r n).2)))
    else (zIn, .spot 0 (.no 3))
theorem wrongF_zero {f : api_Entry} {s : Bool} {n : Int} (h : wrongF f s n = 0) : (s = true ∧ f.Addr = -1 ∧ f.Text ≠ [] ∧ f.Text.all ltr = true) ∨ RightF f n := by
  unfold wrongF at h
  split at h
  · omega
  rename_i h1
  split at h
  · omega
  rename_i h2
  split at h
  · omega
  rename_i h3
  have h2' : f.Text.all ltr = true := by simpa using h2
  cases hf : (s && f.Addr == -1) with
  | true =>
    rw [hf] at h3
    simp only [Bool.and_eq_true, beq_iff_eq] at hf
    exact .inl ⟨hf.1, hf.2, by simpa using h3, h2'⟩
  | false =>
    rw [hf] at h1
    simp at h1
    exact .inr ⟨by omega, by omega, h2'⟩
theorem right_wrongF {f : api_Entry} {n : Int} {s : Bool} (r : RightF f n) : wrongF f s n = 0 := by
  have h0 := r.lo; have h1 := r.hi
  have e : (f.Addr == -1) = false := by simp; omega
  have e1 : decide (f.Addr < 0) = false := by simp; omega
  have e2 : decide (f.Addr ≥ n) = false := by simp; omega
  unfold wrongF
  rw [e, e1, e2, r.text]
  simp
theorem fW_none {n : Int} {s : Bool} : ∀ (l : List api_Entry) (i : Int), fW n s i l = none ↔ ∀ f ∈ l, wrongF f s n = 0 := by
  intro l
  induction l with
  | nil => intro i; simp [fW]
  | cons f l ih =>
    intro i
    unfold fW
    by_cases h : wrongF f s n = 0
    · rw [if_neg (by simp [h]), ih]
      simp [h]
    · rw [if_pos h]
      simp [h]
theorem fields_right {l : List api_Entry} {n : Int} (h : fW n (l.length == 1) 0 l = none) : (∃ t, l = [⟨-1, t⟩] ∧ t ≠ [] ∧ t.all ltr = true) ∨ ∀ f ∈ l, RightF f n := by
  have h := (fW_none l 0).1 h
  by_cases h1 : l.length = 1
  · cases l with
    | nil => simp at h1
    | cons f l =>
      cases l with
      | cons g l => simp at h1
      | nil =>
        rcases wrongF_zero (h f (by simp)) with ⟨_, ha, hb, hc⟩ | r
        · obtain ⟨a, t⟩ := f
          simp only at ha hb hc
          subst ha
          exact .inl ⟨t, rfl, hb, hc⟩
        · refine .inr fun g hg => ?_
          simp at hg
          subst hg
          exact r
  · refine .inr fun f hf => ?_
    rcases wrongF_zero (h f hf) with ⟨ha, _⟩ | r
    · simp at ha; exact absurd ha h1
    · exact r
theorem cntL_all {t : List Int} (h : t.all ltr = true) : cntL t = t.length := by
  have := cntL_app (s := []) h rfl
  simpa using this
theorem readI_write {o : api_In} {n : Int} (n1 : 1 ≤ n) (n2 : n ≤ 16383) (h : (writeI o n).2 = .nil) : readI (writeI o n).1 n = (o, .nil) := by
  obtain ⟨c, cur, l⟩ := o
  unfold writeI at h ⊢
  by_cases he : errI ⟨c, cur, l⟩ n = .nil
  · rw [if_pos he] at h ⊢
    unfold errI at he
    simp only at h he ⊢
    cases ha : aidC c with
    | false => rw [ha] at he; simp at he
    | true =>
      rw [ha] at he
      simp only [if_true] at he
      cases hb : bareC c with
      | true =>
        rw [hb] at he
        simp only [if_true] at he ⊢
        by_cases hz : cur ≠ 0 ∨ l ≠ []
        · rw [if_pos hz] at he; simp at he
        · simp only [not_or, Decidable.not_not] at hz
          unfold readI
          rw [if_neg (by simp)]
          simp [ha, hb, hz.1, hz.2]
      | false =>
        rw [hb] at h he
        simp only [Bool.false_eq_true, if_false] at h he ⊢
        by_cases hc : cur < 0 ∨ cur ≥ n
        · rw [if_pos hc] at he; simp at he
        rw [if_neg hc] at he
        by_cases hl : 3 + (flatF l n).length > 8192
        · rw [if_pos hl] at h; simp at h
        rw [if_neg hl]
        have hfw : fW n (l.length == 1) 0 l = none := by
          cases hx : fW n (l.length == 1) 0 l with
          | none => rfl
          | some q => rw [hx] at he; simp at he
        have hlen : (c :: (putOf cur n ++ flatF l n)).length = 3 + (flatF l n).length := by simp only [List.length_cons, List.length_append, put_len]; omega
        have d : (putOf cur n ++ flatF l n).drop 2 = flatF l n := List.drop_left' (put_len _ _)
        unfold readI
        rw [if_neg (by rw [hlen]; omega)]
        simp only [ha, hb, if_true, Bool.false_eq_true, if_false, get_put n1 n2 (show 0 ≤ cur by omega) (show cur < n by omega), d]
        rcases fields_right hfw with ⟨t, rfl, ht, hall⟩ | hr
        · have e : flatF [(⟨-1, t⟩ : api_Entry)] n = t := by unfold flatF putF; simp
          have hp : t.length ≠ 0 := fun h => ht (List.eq_nil_of_length_eq_zero h)
          rw [e, cntL_all hall, if_neg hp, if_neg (Nat.lt_irrefl _)]
        · rw [if_pos (flatF_head hr), fd_flat n1 n2 l hr, if_pos rfl]
  · rw [if_neg he] at h
    exact absurd h he
end Go.Proofs.YtfkdbplnjlkcdaaGreatDoor.Sx

namespace Go.Proofs.YtfkdbplnjlkcdaaGreatDoor.Sx
open Go
theorem putF_len (f : api_Entry) (n : Int) : (putF f n).length = f.Text.length + if f.Addr = -1 then 0 else 3 := by
  unfold putF
  split
  · simp
  · simp only [List.length_append, List.length_cons, put_len]; omega
theorem writeI_len {o : api_In} {n : Int} : (writeI o n).1.length ≤ 8192 := by
  unfold writeI
  split
  · split
    · simp
    · split
      · simp
      · simp only [List.length_cons, List.length_append, put_len]; omega
  · simp
end Go.Proofs.YtfkdbplnjlkcdaaGreatDoor.Sx
