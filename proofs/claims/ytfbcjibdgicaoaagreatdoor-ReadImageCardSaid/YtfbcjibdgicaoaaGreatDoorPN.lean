/- Plain facts: what input.Write and input.Read answer, in closed form: there and back. -/
import Derived.Test.YtfbcjibdgicaoaaGreatDoorPM
namespace Go.Proofs.YtfbcjibdgicaoaaGreatDoor.Sx
open Go

def bareC (c : Int) : Bool := c == 109 || c == 108 || c == 110 || c == 107
def aidC (c : Int) : Bool := bareC c || c == 125 || (decide (241 ≤ c) && decide (c ≤ 249)) || (decide (122 ≤ c) && decide (c ≤ 124))
def wrongF (f : api_Entry) (single : Bool) (n : Int) : Int :=
  if (!(single && f.Addr == -1) && (decide (f.Addr < 0) || decide (f.Addr ≥ n))) = true then 4 else if f.Text.all ltr = false then 3 else if ((single && f.Addr == -1) && f.Text.isEmpty) = true then 1 else 0
def fW (n : Int) (single : Bool) : Int → List api_Entry → Option (Int × Int)
  | _, [] => none
  | i, f :: l => if wrongF f single n ≠ 0 then some (i, wrongF f single n) else fW n single (i + 1) l
def zIn : api_In := ⟨0, 0, []⟩
def errI (o : api_In) (n : Int) : GoErr :=
  if aidC o.Aid then
    if bareC o.Aid then (if o.Cursor ≠ 0 ∨ o.Fields ≠ [] then .no 1 else .nil)
    else if o.Cursor < 0 ∨ o.Cursor ≥ n then .no 4
    else match fW n (o.Fields.length == 1) 0 o.Fields with
      | some (i, k) => .spot i (.no k)
      | none => .nil
  else .no 3
def writeI (o : api_In) (n : Int) : List Int × GoErr :=
  if errI o n = .nil then
    if bareC o.Aid then ([o.Aid], .nil)
    else if 3 + (flatF o.Fields n).length > 8192 then ([], .no 6) else (o.Aid :: (putOf o.Cursor n ++ flatF o.Fields n), .nil)
  else ([], errI o n)
def readI (b : List Int) (n : Int) : api_In × GoErr :=
  if (b.length : Int) > 8192 then (zIn, .spot 8192 (.no 6)) else
  match b with
  | [] => (zIn, .spot 0 (.no 2))
  | c :: r => if aidC c then
      if bareC c then (if r = [] then (⟨c, 0, []⟩, .nil) else (zIn, .spot 1 (.no 1)))
      else if (getOf r n).2 = .nil then
        if cntL (r.drop 2) = 0 then
          if (fd n (r.drop 2)).2.2 = .nil then (⟨c, (getOf r n).1, (fd n (r.drop 2)).1⟩, .nil) else (zIn, .spot (3 + ((fd n (r.drop 2)).2.1 : Int)) (.no (codeOf (fd n (r.drop 2)).2.2)))
        else if cntL (r.drop 2) < (r.drop 2).length then (zIn, .spot (3 + (cntL (r.drop 2) : Int)) (.no 3)) else (⟨c, (getOf r n).1, [⟨-1, r.drop 2⟩]⟩, .nil)
      else (zIn, .spot 1 (.no (codeOf (getOf r n).2)))
    else (zIn, .spot 0 (.no 3))

theorem wrongF_zero {f : api_Entry} {s : Bool} {n : Int} (h : wrongF f s n = 0) : (s = true ∧ f.Addr = -1 ∧ f.Text ≠ [] ∧ f.Text.all ltr = true) ∨ RightF f n := by
  unfold wrongF at h
  split at h
  · omega
  rename_i h1
  split at h
  · omega
  rename_i h2
  split at h
  · omega
  rename_i h3
  have h2' : f.Text.all ltr = true := by simpa using h2
  cases hf : (s && f.Addr == -1) with
  | true =>
    rw [hf] at h3
    simp only [Bool.and_eq_true, beq_iff_eq] at hf
    exact .inl ⟨hf.1, hf.2, by simpa using h3, h2'⟩
  | false =>
    rw [hf] at h1
    simp at h1
    exact .inr ⟨by omega, by omega, h2'⟩
theorem right_wrongF {f : api_Entry} {n : Int} {s : Bool} (r : RightF f n) : wrongF f s n = 0 := by
  have h0 := r.lo; have h1 := r.hi
  have e : (f.Addr == -1) = false := by simp; omega
  have e1 : decide (f.Addr < 0) = false := by simp; omega
  have e2 : decide (f.Addr ≥ n) = false := by simp; omega
  unfold wrongF
  rw [e, e1, e2, r.text]
  simp
theorem fW_none {n : Int} {s : Bool} : ∀ (l : List api_Entry) (i : Int), fW n s i l = none ↔ ∀ f ∈ l, wrongF f s n = 0 := by
  intro l
  induction l with
  | nil => intro i; simp [fW]
  | cons f l ih =>
    intro i
    unfold fW
    by_cases h : wrongF f s n = 0
    · rw [if_neg (by simp [h]), ih]
      simp [h]
    · rw [if_pos h]
      simp [h]

/-- Fields that may be: one alone, or all with addresses. -/
theorem fields_right {l : List api_Entry} {n : Int} (h : fW n (l.length == 1) 0 l = none) : (∃ t, l = [⟨-1, t⟩] ∧ t ≠ [] ∧ t.all ltr = true) ∨ ∀ f ∈ l, RightF f n := by
  have h := (fW_none l 0).1 h
  by_cases h1 : l.length = 1
  · cases l with
    | nil => simp at h1
    | cons f l =>
      cases l with
      | cons g l => simp at h1
      | nil =>
        rcases wrongF_zero (h f (by simp)) with ⟨_, ha, hb, hc⟩ | r
        · obtain ⟨a, t⟩ := f
          simp only at ha hb hc
          subst ha
          exact .inl ⟨t, rfl, hb, hc⟩
        · refine .inr fun g hg => ?_
          simp at hg
          subst hg
          exact r
  · refine .inr fun f hf => ?_
    rcases wrongF_zero (h f hf) with ⟨ha, _⟩ | r
    · simp at ha; exact absurd ha h1
    · exact r
theorem cntL_all {t : List Int} (h : t.all ltr = true) : cntL t = t.length := by
  have := cntL_app (s := []) h rfl
  simpa using this

theorem readI_write {o : api_In} {n : Int} (n1 : 1 ≤ n) (n2 : n ≤ 16383) (h : (writeI o n).2 = .nil) : readI (writeI o n).1 n = (o, .nil) := by
  obtain ⟨c, cur, l⟩ := o
  unfold writeI at h ⊢
  by_cases he : errI ⟨c, cur, l⟩ n = .nil
  · rw [if_pos he] at h ⊢
    unfold errI at he
    simp only at h he ⊢
    cases ha : aidC c with
    | false => rw [ha] at he; simp at he
    | true =>
      rw [ha] at he
      simp only [if_true] at he
      cases hb : bareC c with
      | true =>
        rw [hb] at he
        simp only [if_true] at he ⊢
        by_cases hz : cur ≠ 0 ∨ l ≠ []
        · rw [if_pos hz] at he; simp at he
        · simp only [not_or, Decidable.not_not] at hz
          unfold readI
          rw [if_neg (by simp)]
          simp [ha, hb, hz.1, hz.2]
      | false =>
        rw [hb] at h he
        simp only [Bool.false_eq_true, if_false] at h he ⊢
        by_cases hc : cur < 0 ∨ cur ≥ n
        · rw [if_pos hc] at he; simp at he
        rw [if_neg hc] at he
        by_cases hl : 3 + (flatF l n).length > 8192
        · rw [if_pos hl] at h; simp at h
        rw [if_neg hl]
        have hfw : fW n (l.length == 1) 0 l = none := by
          cases hx : fW n (l.length == 1) 0 l with
          | none => rfl
          | some q => rw [hx] at he; simp at he
        have hlen : (c :: (putOf cur n ++ flatF l n)).length = 3 + (flatF l n).length := by simp only [List.length_cons, List.length_append, put_len]; omega
        have d : (putOf cur n ++ flatF l n).drop 2 = flatF l n := List.drop_left' (put_len _ _)
        unfold readI
        rw [if_neg (by rw [hlen]; omega)]
        simp only [ha, hb, if_true, Bool.false_eq_true, if_false, get_put n1 n2 (show 0 ≤ cur by omega) (show cur < n by omega), d]
        rcases fields_right hfw with ⟨t, rfl, ht, hall⟩ | hr
        · have e : flatF [(⟨-1, t⟩ : api_Entry)] n = t := by unfold flatF putF; simp
          have hp : t.length ≠ 0 := fun h => ht (List.eq_nil_of_length_eq_zero h)
          rw [e, cntL_all hall, if_neg hp, if_neg (Nat.lt_irrefl _)]
        · rw [if_pos (flatF_head hr), fd_flat n1 n2 l hr, if_pos rfl]
  · rw [if_neg he] at h
    exact absurd h he

theorem writeI_read {b : List Int} {n : Int} (w : ∀ y ∈ b, Wf .u8 y) (n1 : 1 ≤ n) (n2 : n ≤ 16383) (h : (readI b n).2 = .nil) : writeI (readI b n).1 n = (b, .nil) ∧ errI (readI b n).1 n = .nil := by
  unfold readI at h ⊢
  by_cases hl : (b.length : Int) > 8192
  · rw [if_pos hl] at h; simp at h
  rw [if_neg hl] at h ⊢
  cases b with
  | nil => simp at h
  | cons c r =>
    simp only at h ⊢
    cases ha : aidC c with
    | false => rw [ha] at h; simp at h
    | true =>
      rw [ha] at h
      simp only [if_true] at h ⊢
      cases hb : bareC c with
      | true =>
        rw [hb] at h
        simp only [if_true] at h ⊢
        by_cases hr : r = []
        · rw [if_pos hr]; unfold writeI errI; simp [ha, hb, hr]
        · rw [if_neg hr] at h; simp at h
      | false =>
        rw [hb] at h
        simp only [Bool.false_eq_true, if_false] at h ⊢
        have wr : ∀ y ∈ r, Wf .u8 y := fun y hy => w y (by simp [hy])
        by_cases hg : (getOf r n).2 = .nil
        · rw [if_pos hg] at h ⊢
          obtain ⟨g1, g2, g3, g4⟩ := putOf_get wr n1 n2 hg
          have fin : ∀ l : List api_Entry, fW n (l.length == 1) 0 l = none → flatF l n = r.drop 2 → writeI ⟨c, (getOf r n).1, l⟩ n = (c :: r, .nil) ∧ errI ⟨c, (getOf r n).1, l⟩ n = .nil := by
            intro l hf he
            have e0 : errI ⟨c, (getOf r n).1, l⟩ n = .nil := by
              unfold errI
              simp only [ha, hb, if_true, Bool.false_eq_true, if_false, hf]
              rw [if_neg (by omega)]
            refine ⟨?_, e0⟩
            unfold writeI
            rw [if_pos e0]
            simp only [hb, Bool.false_eq_true, if_false, he, g4, List.take_append_drop]
            rw [if_neg]
            rw [List.length_drop]
            simp only [List.length_cons] at hl
            omega
          by_cases hc : cntL (r.drop 2) = 0
          · rw [if_pos hc] at h ⊢
            by_cases hd : (fd n (r.drop 2)).2.2 = .nil
            · rw [if_pos hd] at h ⊢
              obtain ⟨q1, q2, _⟩ := fd_got n1 n2 (r.drop 2).length (r.drop 2) (Nat.le_refl _) (fun y hy => wr y (List.mem_of_mem_drop hy)) hd
              exact fin _ ((fW_none _ 0).2 fun f hf => right_wrongF (q2 f hf)) q1
            · rw [if_neg hd] at h; simp at h
          · rw [if_neg hc] at h ⊢
            by_cases hk : cntL (r.drop 2) < (r.drop 2).length
            · rw [if_pos hk] at h; simp at h
            · rw [if_neg hk]
              have hall : (r.drop 2).all ltr = true := by
                have e := takeL (r.drop 2)
                rw [List.take_of_length_le (by omega)] at e
                rw [e]; exact allL _
              have hne : r.drop 2 ≠ [] := fun e => hc (by rw [e]; rfl)
              refine fin _ ?_ (by unfold flatF putF; simp)
              refine (fW_none _ 0).2 fun f hf => ?_
              simp at hf
              subst hf
              unfold wrongF
              rw [hall]
              simp [hne]
        · rw [if_neg hg] at h; simp at h

theorem readI_bad {b : List Int} {n : Int} (h : (readI b n).2 ≠ .nil) : (readI b n).1 = zIn := by
  unfold readI at h ⊢
  split
  · rfl
  rename_i hl
  rw [if_neg hl] at h
  cases b with
  | nil => rfl
  | cons c r =>
    simp only at h ⊢
    split
    · rename_i ha
      rw [if_pos ha] at h
      split
      · rename_i hb
        rw [if_pos hb] at h
        split
        · rename_i hr; rw [if_pos hr] at h; exact absurd rfl h
        · rfl
      · rename_i hb
        rw [if_neg hb] at h
        split
        · rename_i hg
          rw [if_pos hg] at h
          split
          · rename_i hc
            rw [if_pos hc] at h
            split
            · rename_i hd; rw [if_pos hd] at h; exact absurd rfl h
            · rfl
          · rename_i hc
            rw [if_neg hc] at h
            split
            · rfl
            · rename_i hk; rw [if_neg hk] at h; exact absurd rfl h
        · rfl
    · rfl
end Go.Proofs.YtfbcjibdgicaoaaGreatDoor.Sx

