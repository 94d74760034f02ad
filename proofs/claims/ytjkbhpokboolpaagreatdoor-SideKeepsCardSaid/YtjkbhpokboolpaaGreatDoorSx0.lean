import Derived.Tactics
import Derived.OrdersHeld
import Derived.KernelRfl
import Derived.RowKit3
import Derived.OrdersIn
import Derived.TacticsIn
import Derived.RangeFuncRecord
import Derived.RangeFuncCalls
namespace Go.Proofs.YtjkbhpokboolpaaGreatDoor.Sx
open Go
abbrev Env := List (Nat × Value)
def get : Env → Nat → Value
  | [], _ => undef
  | p :: r, t => bif Nat.beq p.1 t then p.2 else get r t
def look (N : Nat) (ρ : Env) (t : Nat) : Value := bif Nat.blt t N then get ρ t else undef
def ev (N : Nat) (ρ : Env) : Operand → Value
  | .tmp t => look N ρ t
  | .const v => v
  | .global g => .pointer (some ⟨g, 0, none⟩)
  | .func f => .func (.func f) #[] #[]
def put (N : Nat) (ρ : Env) (dst : Option Tmp) (v : Value) : Env :=
  match dst with
  | some d => bif Nat.blt d N then (d, v) :: ρ else ρ
  | none => ρ
structure Rel (N : Nat) (ρ : Env) (a : Act) : Prop where
  size : a.tmps.size = N
  get : ∀ t, a.tmps.getD t undef = look N ρ t
theorem Rel.eval {N : Nat} {ρ : Env} {a : Act} (h : Rel N ρ a) : a.eval = ev N ρ := by
  funext x
  cases x with
  | tmp t => exact h.get t
  | _ => rfl
theorem get_cons (d : Nat) (v : Value) (ρ : Env) (t : Nat) : get ((d, v) :: ρ) t = if d = t then v else get ρ t := by
  by_cases e : d = t
  · subst e; simp [get]
  · have h2 : Nat.beq d t = false := by
      cases hb : Nat.beq d t with
      | true => exact absurd (Nat.eq_of_beq_eq_true hb) e
      | false => rfl
    simp only [get, h2, cond_false, if_neg e]
theorem look_lt {N : Nat} {ρ : Env} {t : Nat} (h : t < N) : look N ρ t = get ρ t := by
  have e : Nat.blt t N = true := by simpa [Nat.blt_eq] using h
  unfold look
  rw [e]; rfl
theorem look_ge {N : Nat} {ρ : Env} {t : Nat} (h : ¬ t < N) : look N ρ t = undef := by
  have e : Nat.blt t N = false := by
    cases hb : Nat.blt t N with
    | true => exact absurd (by rwa [Nat.blt_eq] at hb) h
    | false => rfl
  unfold look
  rw [e]; rfl
theorem nbeq {a b : Nat} (h : ¬ a = b) : Nat.beq a b = false := by
  cases hb : Nat.beq a b with
  | true => exact absurd (Nat.eq_of_beq_eq_true hb) h
  | false => rfl
theorem blt_false {t N : Nat} (h : ¬ t < N) : Nat.blt t N = false := by
  cases hb : Nat.blt t N with
  | true => exact absurd (by rwa [Nat.blt_eq] at hb) h
  | false => rfl
theorem Rel.put {N : Nat} {ρ : Env} {a : Act} (h : Rel N ρ a) (dst : Option Tmp) (v : Value) : Rel N (put N ρ dst v) (a.put dst v) := by
  cases dst with
  | none => exact h
  | some d =>
    refine ⟨by simp [Act.put, h.size], fun t => ?_⟩
    have hs := h.size
    by_cases hd : d < N
    · have e : Nat.blt d N = true := by rw [Nat.blt_eq]; exact hd
      simp only [Sx.put, e, cond_true]
      by_cases ht : t < N
      · rw [look_lt ht, get_cons]
        by_cases hdt : d = t
        · subst hdt
          simp [Act.put, hs, hd]
        · have h1 := h.get t
          rw [look_lt ht] at h1
          rw [if_neg hdt, ← h1]
          simp [Act.put, Array.getElem?_setIfInBounds_ne hdt]
      · rw [look_ge ht]
        have : ¬ t < (a.tmps.setIfInBounds d v).size := by simp; omega
        simp [Act.put, hs, ht]
    · simp only [Sx.put, blt_false hd, cond_false]
      have h1 := h.get t
      have : a.tmps.setIfInBounds d v = a.tmps := by
        apply Array.setIfInBounds_eq_of_size_le
        rw [hs]; exact Nat.le_of_not_lt hd
      simp only [Act.put, this]
      exact h1
theorem Rel.congr {N : Nat} {ρ ρ' : Env} {a : Act} (h : Rel N ρ a) (e : ∀ t, Sx.get ρ t = Sx.get ρ' t) : Rel N ρ' a :=
  ⟨h.size, fun t => by rw [h.get]; unfold look; rw [e]⟩
def yd (N : Nat) (ops : Array Oper) (ρ : Env) (j : Nat) : Option Bool :=
  match ((ops[j]?).bind (·.dst)) with
  | some d => bif Nat.blt d N then (match get ρ d with | .bool b => some b | _ => none) else none
  | none => none
theorem Rel.yielded {N : Nat} {ρ : Env} {a : Act} (h : Rel N ρ a) (ops : Array Oper) : yielded ops a.tmps = yd N ops ρ := by
  funext j
  unfold Go.yielded yd
  cases hd : (ops[j]?).bind (·.dst) with
  | none => rfl
  | some d =>
    simp only [Option.bind_some]
    by_cases hdn : d < N
    · have e : Nat.blt d N = true := by rw [Nat.blt_eq]; exact hdn
      have h1 := h.get d
      rw [look_lt hdn] at h1
      have hs := h.size
      have hlt : d < a.tmps.size := by rw [hs]; exact hdn
      have : a.tmps[d]? = some (Sx.get ρ d) := by
        rw [← h1]; simp [hlt]
      rw [this, e]
      simp only [cond_true]
      split <;> rename_i heq
      · obtain heq := Option.some.inj heq
        rw [heq]
      · split <;> rename_i heq2
        · exact absurd (by rw [heq2]) (heq _)
        · rfl
    · have : a.tmps[d]? = none := by
        apply Array.getElem?_eq_none; rw [h.size]; exact Nat.le_of_not_lt hdn
      rw [this, blt_false hdn]; rfl
def pureRun (P : Program) {α : Type} : Sem α → Option α
  | .pure a => some a
  | .program k => pureRun P (k P)
  | .mark _ k => pureRun P k
  | _ => none
theorem pureRun_run {P : Program} {α : Type} {s : Sem α} {x : α} (h : pureRun P s = some x) (w : World) : s.run P w = .ok x w := by
  induction s with
  | pure a => simp only [pureRun, Option.some.injEq] at h; subst h; rfl
  | program k ih => simp only [pureRun] at h; simp only [Sem.run]; exact ih P h
  | mark m k ih => simp only [pureRun] at h; simp only [Sem.run]; exact ih h
  | _ => simp only [pureRun] at h; cases h
def valOf : Option Next → Option Value
  | some (.value v) => some v
  | some .skip => some undef
  | _ => none
def step1 (P : Program) (N : Nat) (ops : Array Oper) (o : Oper) (ρ : Env) : Option Env :=
  bif Region.wanted o (yd N ops ρ) then
    match valOf (pureRun P (execOp (ev N ρ) o)) with
    | some v => some (put N ρ o.dst v)
    | none => none
  else some (put N ρ o.dst undef)
def runE (P : Program) (N : Nat) (ops : Array Oper) : Nat → List Oper → Env → Env
  | 0, _, ρ => ρ
  | _ + 1, [], ρ => ρ
  | n + 1, o :: r, ρ => match step1 P N ops o ρ with
    | some ρ' => runE P N ops n r ρ'
    | none => ρ
def okE (P : Program) (N : Nat) (ops : Array Oper) : Nat → List Oper → Env → Bool
  | 0, _, _ => true
  | _ + 1, [], _ => true
  | n + 1, o :: r, ρ => match step1 P N ops o ρ with
    | some ρ' => okE P N ops n r ρ'
    | none => false
inductive Ex where
  | normal
  | exit (id : Nat)
  | ret
def exOf : Exit → Option Ex
  | .normal => some .normal
  | .exit i => some (.exit i)
  | .ret => some .ret
  | _ => none
abbrev Heap := Array Obj
abbrev Post := Ex → Env → Heap → Prop
structure Same (W w : World) : Prop where
  os : w.os = W.os
  tape : w.tape = W.tape
  output : w.output = W.output
theorem Same.refl (w : World) : Same w w := ⟨rfl, rfl, rfl⟩
theorem Same.trans {a b c : World} (h : Same a b) (k : Same b c) : Same a c := ⟨k.os.trans h.os, k.tape.trans h.tape, k.output.trans h.output⟩
def lift (N : Nat) (W : World) (ds : List Deferred) (Q : Post) (e : Exit) (a : Act) (w : World) : Prop :=
  match exOf e with
  | some x => ∃ ρ, Rel N ρ a ∧ a.defers = ds ∧ Same W w ∧ Q x ρ w.heap
  | none => False
def thenQ (next : Env → Heap → Prop) (Q : Post) : Post
  | .normal, ρ, h => next ρ h
  | e, ρ, h => Q e ρ h
def blockQ (id : Nat) (Q : Post) : Post
  | .exit i, ρ, h => bif Nat.beq i id then Q .normal ρ h else Q (.exit i) ρ h
  | e, ρ, h => Q e ρ h
def fen (ro : Option Nat) : Fence := { Fence.wide with round := ro }
def xwp (P : Program) (o : Oper) (a : Act) (w : World) (next : Act → World → Prop) : Prop :=
  match (execOp a.eval o).run P w with
  | .ok (.value v) w' => next (a.put o.dst v) w'
  | .ok .skip w' => next (a.put o.dst undef) w'
  | .ok (.enter f args) w' => Calls P f args w' fun e w'' => ∃ v, e = .returned v ∧ next (a.put o.dst v) w''
  | .ok (.round l f tmps assign body) w' => RoundIn Fence.wide 0 P l f tmps assign body w' fun e w'' => ∃ v, e = .returned v ∧ next (a.put o.dst v) w''
  | _ => False
section
variable {P : Program} {ops : Array Oper} {o : Oper} {a : Act} {w : World}
theorem xwp_mono {K K' : Act → World → Prop} (h : ∀ a' w', a'.defers = a.defers → K a' w' → K' a' w') (x : xwp P o a w K) : xwp P o a w K' := by
  have hd : ∀ v, (a.put o.dst v).defers = a.defers := fun v => by unfold Act.put; split <;> rfl
  unfold xwp at *
  split at x
  · exact h _ _ (hd _) x
  · exact h _ _ (hd _) x
  · exact x.mono fun _ _ ⟨v, e, k⟩ => ⟨v, e, h _ _ (hd _) k⟩
  · exact x.mono fun _ _ ⟨v, e, k⟩ => ⟨v, e, h _ _ (hd _) k⟩
  · exact x.elim
theorem xwp_nodefer {K : Act → World → Prop} (x : xwp P o a w K) : ∀ c, o.op ≠ .defer c := by
  intro c hc
  unfold xwp at x
  simp only [execOp, hc, Sem.run_bind] at x
  cases hr : (resolve a.eval c o.type).run P w with
  | ok d w' => simp only [hr, Result.andThen] at x; exact x
  | halt y w' => simp only [hr, Result.andThen] at x
theorem xwp_in {K : Act → World → Prop} {Q : Exit → Act → World → Prop} (ro : Option Nat) (x : xwp P o a w K) : o.wpIn (fen ro) 0 P a w K Q := by
  refine ⟨fun _ _ => trivial, ?_⟩
  have e := Oper.semAt_eq (fen ro).round a.eval o (xwp_nodefer x)
  rw [e]
  unfold xwp at x
  generalize (execOp a.eval o).run P w = r at x
  split at x
  · exact x
  · exact x
  · refine ⟨fun h => (by cases h), ?_⟩
    have y : CallsIn (fen ro) (0 - 1) P _ _ _ (fun e w'' => ∃ v, e = .returned v ∧ K (a.put o.dst v) w'') := (callsIn_wide (n := 0)).2 x
    exact y.mono fun _ _ ⟨v, e, k⟩ => by subst e; exact k
  · refine ⟨fun h => (by cases h), ?_⟩
    have y : RoundIn (fen ro) (0 - 1) P _ _ _ _ _ _ (fun e w'' => ∃ v, e = .returned v ∧ K (a.put o.dst v) w'') := x
    exact y.mono fun _ _ ⟨v, e, k⟩ => by subst e; exact k
  · exact x.elim
def wpListX (P : Program) (ops : Array Oper) (K : Act → World → Prop) : List Oper → Act → World → Prop
  | [], a, w => K a w
  | o :: rest, a, w => if Region.wanted o (yielded ops a.tmps) then xwp P o a w (wpListX P ops K rest) else wpListX P ops K rest (a.put o.dst undef) w
theorem wpListX_in {Q : Exit → Act → World → Prop} (ro : Option Nat) : ∀ {l : List Oper} {a : Act} {w : World}, wpListX P ops (Q .normal) l a w → wpListIn (fen ro) 0 P ops Q l a w
  | [], _, _, x => x
  | o :: rest, a, w, x => by
    unfold wpListX at x
    unfold wpListIn
    split
    · rename_i hw
      rw [if_pos hw] at x
      exact xwp_in ro (xwp_mono (fun _ _ _ k => wpListX_in ro k) x)
    · rename_i hw
      rw [if_neg hw] at x
      exact ⟨fun _ _ => trivial, wpListX_in ro x⟩
def wpOpX (P : Program) (ops : Array Oper) (i : Nat) (K : Act → World → Prop) (a : Act) (w : World) : Prop :=
  match ops[i]? with
  | none => K a w
  | some o => if Region.wanted o (yielded ops a.tmps) then xwp P o a w K else K (a.put o.dst undef) w
theorem wpOpX_mono {i : Nat} {K K' : Act → World → Prop} (h : ∀ a w, K a w → K' a w) (x : wpOpX P ops i K a w) : wpOpX P ops i K' a w := by
  unfold wpOpX at *
  split
  · exact h _ _ (by simpa [*] using x)
  · rename_i o ho
    simp only [ho] at x
    split
    · rename_i hw; simp only [hw, if_true] at x; exact xwp_mono (fun a' w' _ k => h a' w' k) x
    · rename_i hw; simp only [hw] at x; exact h _ _ x
theorem wpOpX_in {i : Nat} {K : Act → World → Prop} {Q : Exit → Act → World → Prop} (ro : Option Nat) (x : wpOpX P ops i K a w) : wpOpIn (fen ro) 0 P ops Q i K a w := by
  unfold wpOpX at x
  unfold wpOpIn
  split
  · simpa [*] using x
  · rename_i o ho
    simp only [ho] at x
    split
    · rename_i hw; simp only [hw, if_true] at x; exact xwp_in ro x
    · rename_i hw; simp only [hw] at x; exact ⟨fun _ _ => trivial, x⟩
theorem yieldsX {S : World → Prop} {i : Nat} {o : Oper} {v : Value} (hi : ops[i]? = some o) (hy : YieldsIf P ops S o v a) {K : Act → World → Prop} (hS : S w) (h : K (a.put o.dst v) w) : wpOpX P ops i K a w := by
  unfold wpOpX
  simp only [hi]
  rcases hy with ⟨hw, hv⟩ | ⟨hw, rfl⟩
  · simp only [hw, if_true, xwp, hv w hS]; exact h
  · simp only [hw, Bool.false_eq_true, if_false]; exact h
theorem wpOpX_putIf {S : World → Prop} {j : Nat} {oi oj : Oper} {v : Value} (hj : ops[j]? = some oj) (hap : oi.apart ops oj = true)
    (hsi : ∀ cs b, oi.op ≠ .select cs b) (hsj : ∀ cs b, oj.op ≠ .select cs b) {K : Act → World → Prop}
    (hy : YieldsIf P ops S oi v a) (h : wpOpX P ops j K (a.put oi.dst v) w) :
    wpOpX P ops j (fun a' w' => YieldsIf P ops S oi v a' ∧ K (a'.put oi.dst v) w') a w := by
  obtain ⟨h1, h2, h3⟩ := Oper.apart_spec hap
  have keep : ∀ (a : Act), YieldsIf P ops S oi v a → ∀ u, YieldsIf P ops S oi v (a.put oj.dst u) := fun a hy u =>
    hy.of_same (execOp_put oi hsi a oj.dst u h3) (wanted_put oi a oj.dst u h3)
  unfold wpOpX at *
  simp only [hj] at *
  rw [wanted_put oj a oi.dst v h1] at h
  split
  · rename_i hw
    simp only [hw, if_true] at h
    unfold xwp at *
    rw [execOp_put oj hsj a oi.dst v h1] at h
    generalize (execOp a.eval oj).run P w = r at *
    cases r with
    | ok n w' =>
      cases n <;> simp only at h ⊢
      case value u => exact ⟨keep a hy u, by rw [← Act.put_comm a v u h2]; exact h⟩
      case skip => exact ⟨keep a hy _, by rw [← Act.put_comm a v undef h2]; exact h⟩
      case enter f args => exact h.mono fun _ _ ⟨u, e, k⟩ => ⟨u, e, keep a hy u, by rw [← Act.put_comm a v u h2]; exact k⟩
      case round l f tmps assign body => exact h.mono fun _ _ ⟨u, e, k⟩ => ⟨u, e, keep a hy u, by rw [← Act.put_comm a v u h2]; exact k⟩
    | halt x w' => exact h.elim
  · rename_i hw
    simp only [hw] at h
    exact ⟨keep a hy _, by rw [← Act.put_comm a v undef h2]; exact h⟩
end
def cwp (P : Program) (N : Nat) (c : Code) (Q : Post) (ρ : Env) (h : Heap) : Prop :=
  ∀ (ro : Option Nat) W w a, Rel N ρ a → Same W w → w.heap = h → c.wpIn (fen ro) 0 P (lift N W a.defers Q) a w
def lwp (P : Program) (N : Nat) (ops : Array Oper) (Q : Post) (l : List Oper) (ρ : Env) (h : Heap) : Prop :=
  ∀ W w a, Rel N ρ a → Same W w → w.heap = h → wpListX P ops (lift N W a.defers Q .normal) l a w
def owp (P : Program) (N : Nat) (o : Oper) (ρ : Env) (h : Heap) (K : Env → Heap → Prop) : Prop :=
  ∀ w a, Rel N ρ a → w.heap = h → ∀ (K' : Act → World → Prop),
    (∀ a' ρ' w', Rel N ρ' a' → a'.defers = a.defers → Same w w' → K ρ' w'.heap → K' a' w') → xwp P o a w K'
section
variable {P : Program} {N : Nat} {Q : Post} {ρ : Env} {h : Heap} {ops : Array Oper}
theorem put_defers (a : Act) (d : Option Tmp) (v : Value) : (a.put d v).defers = a.defers := by unfold Act.put; split <;> rfl
theorem cwp_seq {x y : Code} (hx : cwp P N x (thenQ (cwp P N y Q) Q) ρ h) : cwp P N (x.seq y) Q ρ h := by
  intro ro W w a ha hs hh
  refine wpIn_seq (wpIn_mono (hx ro W w a ha hs hh) fun e a' w' hq => ?_)
  unfold lift at hq
  cases e <;> simp only [exOf] at hq <;> first
    | exact hq.elim
    | (obtain ⟨ρ', hr, hd, hs', hq⟩ := hq
       first
         | (have := hq ro W w' a' hr hs' rfl
            rw [hd] at this
            exact this)
         | exact ⟨ρ', hr, hd, hs', hq⟩)
theorem cwp_skip (k : Q .normal ρ h) : cwp P N .skip Q ρ h := fun _ _ _ _ ha hs hh => wpIn_skip ⟨ρ, ha, rfl, hs, hh ▸ k⟩
theorem cwp_ret (k : Q .ret ρ h) : cwp P N .ret Q ρ h := fun _ _ _ _ ha hs hh => wpIn_ret ⟨ρ, ha, rfl, hs, hh ▸ k⟩
theorem cwp_exit {id : Nat} (k : Q (.exit id) ρ h) : cwp P N (.exit id) Q ρ h := fun _ _ _ _ ha hs hh => wpIn_exit ⟨ρ, ha, rfl, hs, hh ▸ k⟩
theorem cwp_block {id : Nat} {c : Code} (k : cwp P N c (blockQ id Q) ρ h) : cwp P N (.block id c) Q ρ h := by
  intro ro W w a ha hs hh
  refine wpIn_block (wpIn_mono (k ro W w a ha hs hh) fun e a' w' hq => ?_)
  unfold lift at hq
  cases e <;> simp only [exOf] at hq <;> first
    | exact hq.elim
    | (obtain ⟨ρ', hr, hd, hs', hq⟩ := hq
       first
         | exact ⟨ρ', hr, hd, hs', hq⟩
         | (simp only [Exit.inBlock, blockQ] at hq ⊢
            split <;> rename_i hh
            · subst hh; rw [Nat.beq_refl, cond_true] at hq; exact ⟨ρ', hr, hd, hs', hq⟩
            · rw [nbeq hh, cond_false] at hq; exact ⟨ρ', hr, hd, hs', hq⟩))
theorem cwp_true {c : Operand} {x y : Code} (hc : ev N ρ c = .bool true) (k : cwp P N x Q ρ h) : cwp P N (.cond c x y) Q ρ h :=
  fun ro W w a ha hs hh => wpIn_cond_true (by rw [ha.eval]; exact hc) (k ro W w a ha hs hh)
theorem cwp_false {c : Operand} {x y : Code} (hc : ev N ρ c = .bool false) (k : cwp P N y Q ρ h) : cwp P N (.cond c x y) Q ρ h :=
  fun ro W w a ha hs hh => wpIn_cond_false (by rw [ha.eval]; exact hc) (k ro W w a ha hs hh)
theorem cwp_mono {c : Code} {Q' : Post} (k : cwp P N c Q ρ h) (hq : ∀ e ρ h, Q e ρ h → Q' e ρ h) : cwp P N c Q' ρ h := by
  intro ro W w a ha hs hh
  refine wpIn_mono (k ro W w a ha hs hh) fun e a' w' h' => ?_
  unfold lift at *
  cases e <;> simp only [exOf] at h' ⊢ <;> first
    | exact h'
    | (obtain ⟨ρ', hr, hd, hs', h'⟩ := h'; exact ⟨ρ', hr, hd, hs', hq _ _ _ h'⟩)
theorem get_append (L : Env) (hL : ∀ p ∈ L, get ρ p.1 = p.2) (t : Nat) : get (L ++ ρ) t = get ρ t := by
  induction L with
  | nil => rfl
  | cons p L ih =>
    have ih := ih (fun q hq => hL q (List.mem_cons_of_mem _ hq))
    have hp := hL p (List.mem_cons_self ..)
    obtain ⟨d, v⟩ := p
    simp only [List.cons_append, get_cons]
    by_cases e : d = t
    · subst e; rw [if_pos rfl]; exact hp.symm
    · rw [if_neg e]; exact ih
theorem cwp_rebase (L : Env) {c : Code} (hL : ∀ p ∈ L, get ρ p.1 = p.2) (k : cwp P N c Q (L ++ ρ) h) : cwp P N c Q ρ h :=
  fun ro W w a ha hs hh => k ro W w a (ha.congr fun t => (get_append L hL t).symm) hs hh
theorem wp_loop_k {F : Fence} {n : Nat} {c : Code} {Q : Exit → Act → World → Prop} {a : Act} {w : World} (I : Nat → Act → World → Prop) (k0 : Nat) (h₀ : I k0 a w)
    (round : ∀ k a w, I k a w → c.wpIn F n P (Exit.then (fun a' w' => ∃ k', k' < k ∧ I k' a' w') Q) a w) : (Code.loop c).wpIn F n P Q a w := by
  intro b k cs hro hb hr
  have key : ∀ j a w, I j a w →
      ∃ e a' w', Q e a' w' ∧ ArrivesIn (Machine.fenced P F) P (lone (b.atR a (.code c :: .inLoop c :: k)) cs w) b k cs e a' w' := by
    intro j
    induction j using Nat.strongRecOn with
    | _ j ih =>
      intro a w hI
      obtain ⟨e, a₁, w₁, hq, harr⟩ := round j a w hI b (.inLoop c :: k) cs hro hb hr
      cases e with
      | normal =>
        obtain ⟨n', hlt, hI₁⟩ := hq
        obtain ⟨e₂, a₂, w₂, hq₂, harr₂⟩ := ih n' hlt a₁ w₁ hI₁
        exact ⟨e₂, a₂, w₂, hq₂, .of_steps (StepsIn.trans harr (.one (fenced_calm hb hr rfl) stepR_inLoop)) harr₂⟩
      | exit id => exact ⟨_, a₁, w₁, hq, .pass (x := .inLoop c) rfl (fun _ _ => .inl (by simp)) harr⟩
      | goto l => exact ⟨_, a₁, w₁, hq, .pass (x := .inLoop c) rfl (fun _ _ => .inl (by simp)) harr⟩
      | ret => exact ⟨_, a₁, w₁, hq, .pass (x := .inLoop c) rfl (fun _ _ => .inl (by simp)) harr⟩
      | panic ch => exact ⟨_, a₁, w₁, hq, .pass (x := .inLoop c) rfl (fun _ _ => .inl (by simp)) harr⟩
      | outgrown => exact ⟨_, a₁, w₁, hq, .pass (x := .inLoop c) rfl (fun _ _ => .inl (by simp)) harr⟩
  obtain ⟨e, a', w', hq, harr⟩ := key _ a w h₀
  exact ⟨e, a', w', hq, .of_steps (.one (fenced_calm hb hr rfl) stepR_loop) harr⟩
theorem cwp_loop {c : Code} (I : Nat → Env → Heap → Prop) (k : Nat) (h0 : I k ρ h)
    (round : ∀ k ρ h, I k ρ h → cwp P N c (thenQ (fun ρ' h' => ∃ k', k' < k ∧ I k' ρ' h') Q) ρ h) : cwp P N (.loop c) Q ρ h := by
  intro ro W w a ha hs hh
  refine wp_loop_k (fun k a' w => ∃ ρ, Rel N ρ a' ∧ a'.defers = a.defers ∧ Same W w ∧ I k ρ w.heap) k ⟨ρ, ha, rfl, hs, hh ▸ h0⟩ ?_
  rintro k a' w ⟨ρ, hr, hd, hs, hI⟩
  refine wpIn_mono (round k ρ w.heap hI ro W w a' hr hs rfl) fun e a' w' hq => ?_
  unfold lift at hq
  cases e <;> simp only [exOf] at hq <;> first
    | exact hq.elim
    | (obtain ⟨ρ', hr', hd', hs', hq⟩ := hq
       first
         | (obtain ⟨k', hk, hI'⟩ := hq
            exact ⟨k', hk, ρ', hr', hd'.trans hd, hs', hI'⟩)
         | exact ⟨ρ', hr', hd'.trans hd, hs', hq⟩)
theorem cwp_region {id : Nat} {l : List Oper} (k : lwp P N l.toArray Q l ρ h) : cwp P N (.region id l.toArray false) Q ρ h :=
  fun ro W w a ha hs hh => wpIn_region_lit (wpListX_in ro (k W w a ha hs hh))
theorem lwp_nil (k : Q .normal ρ h) : lwp P N ops Q [] ρ h := fun _ _ _ ha hs hh => ⟨ρ, ha, rfl, hs, hh ▸ k⟩
theorem lwp_op {o : Oper} {rest : List Oper} (hg : Region.wanted o (yd N ops ρ) = true) (k : owp P N o ρ h (lwp P N ops Q rest)) : lwp P N ops Q (o :: rest) ρ h := by
  intro W w a ha hs hh
  unfold wpListX
  rw [ha.yielded, hg, if_pos rfl]
  exact k w a ha hh _ (fun a' ρ' w' hr hd hs' hl => hd ▸ hl W w' a' hr (hs.trans hs') rfl)
theorem step1_spec {o : Oper} {ρ' : Env} (h : step1 P N ops o ρ = some ρ') {a : Act} (ha : Rel N ρ a) :
    (Region.wanted o (yielded ops a.tmps) = true ∧ ∃ x, pureRun P (execOp a.eval o) = some x ∧ ∃ v, valOf (some x) = some v ∧ ρ' = put N ρ o.dst v) ∨
    (Region.wanted o (yielded ops a.tmps) = false ∧ ρ' = put N ρ o.dst undef) := by
  rw [ha.yielded, ha.eval]
  unfold step1 at h
  cases hw : Region.wanted o (yd N ops ρ) with
  | true =>
    rw [hw, cond_true] at h
    cases hx : pureRun P (execOp (ev N ρ) o) with
    | none => rw [hx] at h; cases h
    | some x =>
      rw [hx] at h
      cases hv : valOf (some x) with
      | none => rw [hv] at h; cases h
      | some v => rw [hv] at h; exact .inl ⟨rfl, x, rfl, v, hv, (Option.some.inj h).symm⟩
  | false => rw [hw, cond_false] at h; exact .inr ⟨rfl, (Option.some.inj h).symm⟩
theorem lwp_step {o : Oper} {rest : List Oper} {ρ' : Env} (h1 : step1 P N ops o ρ = some ρ') (k : lwp P N ops Q rest ρ' h) : lwp P N ops Q (o :: rest) ρ h := by
  intro W w a ha hs hh
  unfold wpListX
  rcases step1_spec h1 ha with ⟨hw, x, hx, v, hv, rfl⟩ | ⟨hw, rfl⟩
  · rw [hw, if_pos rfl]
    unfold xwp
    rw [pureRun_run hx]
    have := k W w _ (ha.put o.dst v) hs hh
    rw [put_defers] at this
    cases x <;> simp only [valOf] at hv <;> first | (cases hv; done) | skip
    all_goals
      obtain rfl := Option.some.inj hv
      exact this
  · rw [hw, if_neg (by simp)]
    have := k W w _ (ha.put o.dst undef) hs hh
    rw [put_defers] at this
    exact this
theorem lwp_run (n : Nat) {l : List Oper} (h1 : okE P N ops n l ρ = true) (k : lwp P N ops Q (l.drop n) (runE P N ops n l ρ) h) : lwp P N ops Q l ρ h := by
  induction n generalizing l ρ with
  | zero => exact k
  | succ n ih =>
    cases l with
    | nil => exact k
    | cons o r =>
      unfold okE at h1
      unfold runE at k
      cases hs : step1 P N ops o ρ with
      | none => rw [hs] at h1; cases h1
      | some ρ' =>
        rw [hs] at h1 k
        exact lwp_step hs (ih h1 k)
def wpAnyF (P : Program) (ops : Array Oper) (K : Act → World → Prop) (S : World → Prop) (L : Nat) : Nat → Array Bool → Act → World → Prop
  | 0, listed, a, w => Region.ready .any ops listed = [] ∧ K a w
  | fuel + 1, listed, a, w =>
    (Region.ready .any ops listed = [] → K a w) ∧
    ∀ i ∈ Region.ready .any ops listed, wpOpX P ops i (fun a' w' => (i < L → S w') ∧ wpAnyF P ops K S L fuel (listed.setIfInBounds i true) a' w') a w
section
variable {P : Program} {ops : Array Oper} {K : Act → World → Prop} {S : World → Prop} {L : Nat}
theorem wpAny_of_F {Q : Exit → Act → World → Prop} (ro : Option Nat) : ∀ (fuel : Nat) (listed : Array Bool) (a : Act) (w : World), wpAnyF P ops (Q .normal) S L fuel listed a w → wpAnyIn (fen ro) 0 P .any ops Q fuel listed a w
  | 0, _, _, _, h => h
  | fuel + 1, _, _, _, h => ⟨h.1, fun i hi => wpOpX_in ro (wpOpX_mono (fun a' w' h' => wpAny_of_F ro fuel _ a' w' h'.2) (h.2 i hi))⟩
def Closed (ops : Array Oper) (listed : Array Bool) : Prop := ∀ k ok, ops[k]? = some ok → listed.getD k false = true → ∀ e ∈ ok.after, Region.binds .any e = true → listed.getD e.on false = true
def reaches (ops : Array Oper) : Nat → Nat → Nat → Bool
  | 0, _, _ => false
  | n + 1, j, i => match ops[j]? with
    | some o => o.after.toList.any fun e => Region.binds .any e && (Nat.beq e.on i || (Nat.blt i e.on && reaches ops n e.on i))
    | none => false
theorem reaches_spec {n j i : Nat} {o : Oper} (ho : ops[j]? = some o) (h : reaches ops (n + 1) j i = true) : ∃ e ∈ o.after, Region.binds .any e = true ∧ (e.on = i ∨ reaches ops n e.on i = true) := by
  unfold reaches at h
  rw [ho] at h
  simp only at h
  obtain ⟨e, he, hb⟩ := List.any_eq_true.1 h
  rw [Bool.and_eq_true, Bool.or_eq_true] at hb
  exact ⟨e, by simpa using he, hb.1, hb.2.imp Nat.eq_of_beq_eq_true fun y => (Bool.and_eq_true _ _ ▸ y).2⟩
theorem reaches_not {listed : Array Bool} {i : Nat} (cl : Closed ops listed) (hi : listed.getD i false = false) : ∀ n j, listed.getD j false = true → reaches ops n j i = false
  | 0, _, _ => rfl
  | n + 1, j, hj => by
    cases hr : reaches ops (n + 1) j i with
    | false => rfl
    | true =>
      cases ho : ops[j]? with
      | none => unfold reaches at hr; rw [ho] at hr; cases hr
      | some o =>
        obtain ⟨e, he, hb, h⟩ := reaches_spec ho hr
        have hl := cl j o ho hj e he hb
        rcases h with rfl | h
        · rw [hi] at hl; cases hl
        · rw [reaches_not cl hi n e.on hl] at h; cases h
theorem Closed.step {listed : Array Bool} {j : Nat} (cl : Closed ops listed) (hj : j ∈ Region.ready .any ops listed) : Closed ops (listed.setIfInBounds j true) := by
  intro k ok hk hl e he hb
  obtain ⟨_, o, ho, hall⟩ := mem_ready.1 hj
  by_cases hjk : j = k
  · subst hjk
    obtain rfl := Option.some.inj (ho.symm.trans hk)
    exact getD_set_true (hall e he hb)
  · rw [getD_set_ne false hjk] at hl
    exact getD_set_true (cl k ok hk hl e he hb)
theorem wpAnyF_first {i : Nat} {oi : Oper} {v : Value} (hi : ops[i]? = some oi) (hsel : ∀ (j : Nat) (o : Oper) cs b, ops[j]? = some o → o.op ≠ .select cs b)
    (hiL : i < L)
    (hL : ∀ j oj, ops[j]? = some oj → L ≤ j → ∃ n, reaches ops n j i = true) :
    ∀ (fuel : Nat) (listed : Array Bool) (a : Act) (w : World), (ops.size ≤ L ∨ Closed ops listed) →
      (∀ j oj, ops[j]? = some oj → j ≠ i → listed.getD j true = false → (∀ e ∈ oj.after, Region.binds .any e = true → e.on ≠ i) → oi.apart ops oj = true) →
      i ∈ Region.ready .any ops listed → YieldsIf P ops S oi v a → S w →
      wpAnyF P ops K S L fuel (listed.setIfInBounds i true) (a.put oi.dst v) w → wpAnyF P ops K S L (fuel + 1) listed a w := by
  intro fuel
  induction fuel with
  | zero =>
    intro listed a w _ _ hr hy hS H
    refine ⟨fun h => (by rw [h] at hr; cases hr), fun j hj => ?_⟩
    by_cases hji : j = i
    · subst hji; exact yieldsX hi hy hS ⟨fun _ => hS, H⟩
    · have := ready_mono hj hji
      rw [H.1] at this
      cases this
  | succ fuel ih =>
    intro listed a w hcl hfree hr hy hS H
    refine ⟨fun h => (by rw [h] at hr; cases hr), fun j hj => ?_⟩
    by_cases hji : j = i
    · subst hji; exact yieldsX hi hy hS ⟨fun _ => hS, H⟩
    · have h1 := H.2 j (ready_mono hj hji)
      obtain ⟨hjun, oj, hoj, hall⟩ := mem_ready.1 hj
      have hnot : ∀ e ∈ oj.after, Region.binds .any e = true → e.on ≠ i := fun e he hb heq => by
        have h1 := hall e he hb
        have h0 := (mem_ready.1 hr).1
        rw [heq] at h1
        rcases Nat.lt_or_ge i listed.size with h' | h'
        · simp [h'] at h0 h1; rw [h0] at h1; cases h1
        · simp [Array.getElem?_eq_none h'] at h1
      have hjL : j < L := by
        rcases Nat.lt_or_ge j L with h | h
        · exact h
        · have hlt : j < ops.size := (Array.getElem?_eq_some_iff.1 hoj).1
          rcases hcl with hcl | hcl
          · omega
          · obtain ⟨n, hn⟩ := hL j oj hoj h
            cases n with
            | zero => cases hn
            | succ n =>
              obtain ⟨e, he, hb, h'⟩ := reaches_spec hoj hn
              have hi0 : listed.getD i false = false := by
                have h0 := (mem_ready.1 hr).1
                rcases Nat.lt_or_ge i listed.size with h' | h'
                · simp [h'] at h0 ⊢; exact h0
                · simp [Array.getElem?_eq_none h'] at h0
              rcases h' with heq | h'
              · exact absurd heq (hnot e he hb)
              · rw [reaches_not hcl hi0 n e.on (hall e he hb)] at h'; cases h'
      have h2 := wpOpX_putIf hoj (hfree j oj hoj hji hjun hnot) (fun cs b => hsel i oi cs b hi) (fun cs b => hsel j oj cs b hoj) hy h1
      have hfree' : ∀ k ok, ops[k]? = some ok → k ≠ i → (listed.setIfInBounds j true).getD k true = false →
          (∀ e ∈ ok.after, Region.binds .any e = true → e.on ≠ i) → oi.apart ops ok = true := fun k ok hk hki hun hno => by
        refine hfree k ok hk hki ?_ hno
        by_cases hjk : j = k
        · subst hjk; exact hjun
        · rw [getD_set_ne true hjk] at hun; exact hun
      refine wpOpX_mono (fun a' w' h3 => ⟨h3.2.1, ih (listed.setIfInBounds j true) a' w' (hcl.imp id (fun c => c.step hj)) hfree' (ready_mono hr (Ne.symm hji)) h3.1 (h3.2.1 hjL) ?_⟩) h2
      rw [Array.setIfInBounds_comm _ _ hji]
      exact h3.2.2
end
def awp (P : Program) (N : Nat) (ops : Array Oper) (Q : Post) (S : Heap → Prop) (L : Nat) (fuel : Nat) (listed : Array Bool) (ρ : Env) (h : Heap) : Prop :=
  ∀ W w a, Rel N ρ a → Same W w → w.heap = h → wpAnyF P ops (lift N W a.defers Q .normal) (fun w => Same W w ∧ S w.heap) L fuel listed a w
theorem cwp_regionD {id : Nat} {l : List Oper} (S : Heap → Prop) (L : Nat) (hm : P.follows .mixedOrders = true)
    (k : awp P N l.toArray Q S L l.length (Array.replicate l.length false) ρ h) : cwp P N (.region id l.toArray true) Q ρ h := by
  intro ro W w a ha hs hh
  refine wpIn_region_any hm (wpAny_of_F (S := fun w => Same W w ∧ S w.heap) (L := L) ro _ _ _ _ ?_)
  have := k W { w with drawn := w.drawn + 1 } a ha ⟨hs.os, hs.tape, hs.output⟩ hh
  simpa using this
theorem awp_nil {S : Heap → Prop} {L : Nat} {listed : Array Bool} (hr : Region.ready .any ops listed = []) (k : Q .normal ρ h) (fuel : Nat) : awp P N ops Q S L fuel listed ρ h := by
  intro W w a ha hs hh
  cases fuel with
  | zero => exact ⟨hr, ρ, ha, rfl, hs, hh ▸ k⟩
  | succ n => exact ⟨fun _ => ⟨ρ, ha, rfl, hs, hh ▸ k⟩, by rw [hr]; simp⟩
def closedB (ops : Array Oper) (listed : Array Bool) : Bool :=
  (List.range ops.size).all fun k => match ops[k]? with
    | some o => !listed.getD k false || o.after.toList.all (fun e => !Region.binds .any e || listed.getD e.on false)
    | none => true
def waitsL (ops : Array Oper) (L : Nat) (listed : Array Bool) (i : Nat) : Bool :=
  Nat.blt i L && (Nat.ble ops.size L || (closedB ops listed && (List.range ops.size).all (fun j => !Nat.ble L j || reaches ops 16 j i)))
theorem waitsL_spec {ops : Array Oper} {L i : Nat} {listed : Array Bool} (h : waitsL ops L listed i = true) :
    i < L ∧ (ops.size ≤ L ∨ Closed ops listed) ∧ ∀ j oj, ops[j]? = some oj → L ≤ j → ∃ n, reaches ops n j i = true := by
  unfold waitsL at h
  rw [Bool.and_eq_true, Bool.or_eq_true, Bool.and_eq_true] at h
  refine ⟨by simpa [Nat.blt_eq] using h.1, ?_⟩
  rcases h.2 with h | ⟨hc, hw⟩
  · have := Nat.le_of_ble_eq_true h
    exact ⟨.inl this, fun j oj hj hL => by have hlt : j < ops.size := (Array.getElem?_eq_some_iff.1 hj).1; omega⟩
  · refine ⟨.inr fun k ok hk hl e he hb => ?_, fun j oj hj hL => ⟨16, ?_⟩⟩
    · have hlt : k < ops.size := (Array.getElem?_eq_some_iff.1 hk).1
      have := List.all_eq_true.1 hc k (List.mem_range.2 hlt)
      rw [hk] at this
      simp only [hl, Bool.not_true, Bool.false_or] at this
      have := List.all_eq_true.1 this e (by simpa using he)
      simpa [hb] using this
    · have hlt : j < ops.size := (Array.getElem?_eq_some_iff.1 hj).1
      have := List.all_eq_true.1 hw j (List.mem_range.2 hlt)
      simpa [Nat.ble_eq_true_of_le hL] using this
def mayTake (ops : Array Oper) (L : Nat) (listed : Array Bool) (i : Nat) : Bool :=
  Region.noSelect ops && Region.free .any ops listed i && (Region.ready .any ops listed).contains i && waitsL ops L listed i
theorem awp_take {S : Heap → Prop} {L : Nat} {fuel : Nat} {listed : Array Bool} (i : Nat) {o : Oper} {v : Value} (hi : ops[i]? = some o) (hf : mayTake ops L listed i = true)
    (hS : S h)
    (hy : (Region.wanted o (yd N ops ρ) = true ∧ ∀ w, S w.heap → (execOp (ev N ρ) o).run P w = .ok (.value v) w) ∨ (Region.wanted o (yd N ops ρ) = false ∧ v = undef))
    (k : awp P N ops Q S L fuel (listed.setIfInBounds i true) (put N ρ o.dst v) h) : awp P N ops Q S L (fuel + 1) listed ρ h := by
  intro W w a ha hs hh
  simp only [mayTake, Bool.and_eq_true] at hf
  obtain ⟨hiL, hcl, hL⟩ := waitsL_spec hf.2
  have k' := k W w _ (ha.put o.dst v) hs hh
  rw [put_defers] at k'
  refine wpAnyF_first hi (Region.noSelect_spec hf.1.1.1) (v := v) hiL hL fuel listed a w hcl (Region.free_spec hi hf.1.1.2) (by simpa using hf.1.2) ?_ ⟨hs, hh ▸ hS⟩ k'
  unfold YieldsIf
  rw [ha.yielded, ha.eval]
  exact hy.imp (fun ⟨a, b⟩ => ⟨a, fun w hw => b w hw.2⟩) id
def takeV (P : Program) (N : Nat) (ops : Array Oper) (o : Oper) (ρ : Env) : Option Env :=
  bif Region.wanted o (yd N ops ρ) then
    match pureRun P (execOp (ev N ρ) o) with
    | some (.value v) => some (put N ρ o.dst v)
    | _ => none
  else some (put N ρ o.dst undef)
def runT (P : Program) (N : Nat) (ops : Array Oper) : List Nat → Env → Env
  | [], ρ => ρ
  | i :: is, ρ => match (ops[i]?).bind (takeV P N ops · ρ) with
    | some ρ' => runT P N ops is ρ'
    | none => ρ
def lisT : List Nat → Array Bool → Array Bool
  | [], l => l
  | i :: is, l => lisT is (l.setIfInBounds i true)
def okT (P : Program) (N : Nat) (ops : Array Oper) (L : Nat) : List Nat → Array Bool → Env → Bool
  | [], _, _ => true
  | i :: is, l, ρ => bif mayTake ops L l i then (match (ops[i]?).bind (takeV P N ops · ρ) with
    | some ρ' => okT P N ops L is (l.setIfInBounds i true) ρ'
    | none => false) else false
theorem awp_run {S : Heap → Prop} {L : Nat} (is : List Nat) {fuel : Nat} {listed : Array Bool} (hS : S h) (h1 : okT P N ops L is listed ρ = true)
    (k : awp P N ops Q S L fuel (lisT is listed) (runT P N ops is ρ) h) : awp P N ops Q S L (fuel + is.length) listed ρ h := by
  induction is generalizing listed ρ with
  | nil => exact k
  | cons i is ih =>
    unfold okT at h1
    unfold runT lisT at k
    cases hf : mayTake ops L listed i with
    | false => rw [hf, cond_false] at h1; cases h1
    | true =>
      rw [hf, cond_true] at h1
      cases ho : ops[i]? with
      | none => rw [ho] at h1; simp only [Option.bind_none] at h1; cases h1
      | some o =>
        rw [ho] at h1 k
        simp only [Option.bind_some] at h1 k
        cases ht : takeV P N ops o ρ with
        | none => rw [ht] at h1; cases h1
        | some ρ' =>
          rw [ht] at h1 k
          simp only at h1 k
          have ih' := ih h1 k
          unfold takeV at ht
          cases hw : Region.wanted o (yd N ops ρ) with
          | false =>
            rw [hw, cond_false] at ht
            obtain rfl := Option.some.inj ht
            exact awp_take i ho hf hS (.inr ⟨hw, rfl⟩) ih'
          | true =>
            rw [hw, cond_true] at ht
            cases hx : pureRun P (execOp (ev N ρ) o) with
            | none => rw [hx] at ht; cases ht
            | some x =>
              rw [hx] at ht
              cases x <;> simp only at ht <;> first | (cases ht; done) | skip
              obtain rfl := Option.some.inj ht
              exact awp_take i ho hf hS (.inl ⟨hw, fun w _ => pureRun_run hx w⟩) ih'
theorem awp_op {S : Heap → Prop} {L : Nat} (i : Nat) {fuel : Nat} {listed : Array Bool} {o : Oper} (hr : Region.ready .any ops listed = [i]) (hi : ops[i]? = some o)
    (hg : Region.wanted o (yd N ops ρ) = true) (k : owp P N o ρ h (fun ρ' h' => S h' ∧ awp P N ops Q S L fuel (listed.setIfInBounds i true) ρ' h')) :
    awp P N ops Q S L (fuel + 1) listed ρ h := by
  intro W w a ha hs hh
  refine ⟨fun h0 => absurd (hr.symm.trans h0) (by simp), fun j hj => ?_⟩
  obtain rfl : j = i := by rw [hr] at hj; simpa using hj
  unfold wpOpX
  rw [hi]
  simp only
  rw [ha.yielded, hg, if_pos rfl]
  exact k w a ha hh _ (fun a' ρ' w' hr' hd hs' hl => ⟨fun _ => ⟨hs.trans hs', hl.1⟩, hd ▸ hl.2 W w' a' hr' (hs.trans hs') rfl⟩)
theorem awp_opL {S : Heap → Prop} {L : Nat} (i : Nat) {fuel : Nat} {listed : Array Bool} {o : Oper} (hr : Region.ready .any ops listed = [i]) (hL : Nat.ble L i = true) (hi : ops[i]? = some o)
    (hg : Region.wanted o (yd N ops ρ) = true) (k : owp P N o ρ h (awp P N ops Q S L fuel (listed.setIfInBounds i true))) :
    awp P N ops Q S L (fuel + 1) listed ρ h := by
  intro W w a ha hs hh
  have hL' := Nat.le_of_ble_eq_true hL
  refine ⟨fun h0 => absurd (hr.symm.trans h0) (by simp), fun j hj => ?_⟩
  obtain rfl : j = i := by rw [hr] at hj; simpa using hj
  unfold wpOpX
  rw [hi]
  simp only
  rw [ha.yielded, hg, if_pos rfl]
  exact k w a ha hh _ (fun a' ρ' w' hr' hd hs' hl => ⟨fun hl' => absurd hl' (by omega), hd ▸ hl W w' a' hr' (hs.trans hs') rfl⟩)
def awpAt (P : Program) (N : Nat) (ops : Array Oper) (Q : Post) (S : Heap → Prop) (L : Nat) (fuel : Nat) (listed : Array Bool) (i : Nat) (ρ : Env) (h : Heap) : Prop :=
  ∀ W w a, Rel N ρ a → Same W w → w.heap = h → wpOpX P ops i (fun a' w' => (i < L → Same W w' ∧ S w'.heap) ∧ wpAnyF P ops (lift N W a.defers Q .normal) (fun w => Same W w ∧ S w.heap) L fuel (listed.setIfInBounds i true) a' w') a w
theorem awpAt_op {S : Heap → Prop} {L i fuel : Nat} {listed : Array Bool} {o : Oper} (hi : ops[i]? = some o)
    (hg : Region.wanted o (yd N ops ρ) = true) (k : owp P N o ρ h (fun ρ' h' => S h' ∧ awp P N ops Q S L fuel (listed.setIfInBounds i true) ρ' h')) :
    awpAt P N ops Q S L fuel listed i ρ h := by
  intro W w a ha hs hh
  unfold wpOpX
  rw [hi]
  simp only
  rw [ha.yielded, hg, if_pos rfl]
  exact k w a ha hh _ (fun a' ρ' w' hr' hd hs' hl => ⟨fun _ => ⟨hs.trans hs', hl.1⟩, hd ▸ hl.2 W w' a' hr' (hs.trans hs') rfl⟩)
theorem awpAt_opL {S : Heap → Prop} {L i fuel : Nat} {listed : Array Bool} {o : Oper} (hi : ops[i]? = some o) (hL : Nat.ble L i = true)
    (hg : Region.wanted o (yd N ops ρ) = true) (k : owp P N o ρ h (awp P N ops Q S L fuel (listed.setIfInBounds i true))) :
    awpAt P N ops Q S L fuel listed i ρ h := by
  intro W w a ha hs hh
  have hL' := Nat.le_of_ble_eq_true hL
  unfold wpOpX
  rw [hi]
  simp only
  rw [ha.yielded, hg, if_pos rfl]
  exact k w a ha hh _ (fun a' ρ' w' hr' hd hs' hl => ⟨fun hl' => absurd hl' (by omega), hd ▸ hl W w' a' hr' (hs.trans hs') rfl⟩)
theorem awp_two {S : Heap → Prop} {L : Nat} (i j : Nat) {fuel : Nat} {listed : Array Bool} (hr : Region.ready .any ops listed = [i, j])
    (k1 : awpAt P N ops Q S L fuel listed i ρ h) (k2 : awpAt P N ops Q S L fuel listed j ρ h) : awp P N ops Q S L (fuel + 1) listed ρ h := by
  intro W w a ha hs hh
  refine ⟨fun h0 => absurd (hr.symm.trans h0) (by simp), fun x hx => ?_⟩
  rw [hr] at hx
  simp only [List.mem_cons, List.not_mem_nil, or_false] at hx
  rcases hx with rfl | rfl
  · exact k1 W w a ha hs hh
  · exact k2 W w a ha hs hh
def Ret (P : Program) (f : FuncId) (args : Array Value) (h : Heap) (R : Value → Heap → Prop) : Prop :=
  ∀ w : World, w.heap = h → Calls P f args w (fun e w' => ∃ v, e = .returned v ∧ Same w w' ∧ R v w'.heap)
theorem Ret.mono {f : FuncId} {args : Array Value} {R R' : Value → Heap → Prop} (k : Ret P f args h R) (hr : ∀ v h', R v h' → R' v h') : Ret P f args h R' :=
  fun w hw => (k w hw).mono fun _ _ ⟨v, e, s, r⟩ => ⟨v, e, s, hr v _ r⟩
def resE (N : Nat) (ρ : Env) : List ResultVar → Option Value
  | [] => some (.tuple #[])
  | [.tmp t] => some (look N ρ t)
  | [.tmp t, .tmp u] => some (.tuple #[look N ρ t, look N ρ u])
  | [.tmp t, .tmp u, .tmp x] => some (.tuple #[look N ρ t, look N ρ u, look N ρ x])
  | [.tmp t, .tmp u, .tmp x, .tmp y] => some (.tuple #[look N ρ t, look N ρ u, look N ρ x, look N ρ y])
  | _ => none
def retQ (N : Nat) (rs : List ResultVar) (R : Value → Heap → Prop) : Post
  | .exit _, _, _ => False
  | _, ρ, h => ∃ v, resE N ρ rs = some v ∧ R v h
theorem results_of {fn : Func} {rs : List ResultVar} {a : Act} {v : Value} (hrs : fn.results = rs.toArray) (ha : Rel N ρ a) (h : resE N ρ rs = some v) (w : World) :
    (results fn a.tmps).run P w = .ok v w := by
  unfold resE at h
  split at h <;> first
    | (cases h; done)
    | (obtain rfl := Option.some.inj h
       simp [results, hrs, ← ha.get])
def argEnv : Nat → List Value → Env
  | _, [] => []
  | i, v :: r => (i, v) :: argEnv (i + 1) r
theorem get_argEnv (l : List Value) : ∀ (i t : Nat), get (argEnv i l) t = if i ≤ t then l.getD (t - i) undef else undef := by
  induction l with
  | nil => intro i t; simp [argEnv, get]
  | cons v r ih =>
    intro i t
    simp only [argEnv, get_cons, ih]
    by_cases e : i = t
    · subst e; simp
    · rw [if_neg e]
      by_cases h : i ≤ t
      · rw [if_pos h, if_pos (by omega)]
        have : t - i = (t - (i + 1)) + 1 := by omega
        rw [this]; rfl
      · rw [if_neg h, if_neg (by omega)]
theorem rel_args {args : List Value} (hN : args.length ≤ N) : Rel N (argEnv 0 args) { tmps := args.toArray ++ Array.replicate (N - args.length) undef, defers := [] } := by
  refine ⟨by simp; omega, fun t => ?_⟩
  by_cases ht : t < N
  · rw [look_lt ht, get_argEnv, if_pos (Nat.zero_le _), Nat.sub_zero]
    by_cases h2 : t < args.length
    · simp [Array.getElem?_append, h2]
    · simp only [Array.getD_eq_getD_getElem?, Array.getElem?_append, List.getD_eq_getElem?_getD]
      rw [if_neg (by simpa using h2), List.getElem?_eq_none (by omega)]
      simp [Array.getElem?_replicate]
      split <;> rfl
  · rw [look_ge ht]
    have : ¬ t < (args.toArray ++ Array.replicate (N - args.length) undef).size := by simp; omega
    simp only [Array.getD, this, dite_false]
theorem ret_of {f : FuncId} {fn : Func} {c : Code} {args : List Value} {rs : List ResultVar} {R : Value → Heap → Prop}
    (hf : P.funcs[f]? = some fn) (hb : fn.body = some c) (hn : fn.ntmps = N) (hrs : fn.results = rs.toArray) (hN : args.length ≤ N)
    (k : cwp P N c (retQ N rs R) (argEnv 0 args) h) : Ret P f args.toArray h R := by
  intro w hw
  refine calls_of_wp hf hb ?_
  have hr := rel_args (N := N) hN
  have := wpIn_wide.1 (k none w w _ hr (Same.refl w) hw)
  rw [hn]
  simp only [List.size_toArray]
  refine Code.wp_mono (fun e a' w' hq => ?_) this
  unfold lift at hq
  cases e <;> simp only [exOf] at hq <;> first
    | exact hq.elim
    | (obtain ⟨ρ', hr', hd, hs', hq⟩ := hq
       first
         | exact hq.elim
         | (obtain ⟨v, hv, hR⟩ := hq
            exact ⟨hd, v, results_of hrs hr' hv w', v, rfl, hs', hR⟩))
theorem owp_val {o : Oper} {v : Value} {h' : Heap} {K : Env → Heap → Prop} (hr : ∀ w : World, w.heap = h → ∃ w', (execOp (ev N ρ) o).run P w = .ok (.value v) w' ∧ Same w w' ∧ w'.heap = h')
    (k : K (put N ρ o.dst v) h') : owp P N o ρ h K := by
  intro w a ha hh K' hK
  obtain ⟨w', hr, hs, hh'⟩ := hr w hh
  unfold xwp
  rw [ha.eval, hr]
  exact hK _ _ _ (ha.put _ _) (put_defers _ _ _) hs (hh' ▸ k)
theorem owp_skip {o : Oper} {h' : Heap} {K : Env → Heap → Prop} (hr : ∀ w : World, w.heap = h → ∃ w', (execOp (ev N ρ) o).run P w = .ok .skip w' ∧ Same w w' ∧ w'.heap = h')
    (k : K (put N ρ o.dst undef) h') : owp P N o ρ h K := by
  intro w a ha hh K' hK
  obtain ⟨w', hr, hs, hh'⟩ := hr w hh
  unfold xwp
  rw [ha.eval, hr]
  exact hK _ _ _ (ha.put _ _) (put_defers _ _ _) hs (hh' ▸ k)
theorem owp_pure {o : Oper} (v : Value) {K : Env → Heap → Prop} (hr : pureRun P (execOp (ev N ρ) o) = some (.value v))
    (k : K (put N ρ o.dst v) h) : owp P N o ρ h K :=
  owp_val (fun w hw => ⟨w, pureRun_run hr w, Same.refl w, hw⟩) k
theorem owp_call {o : Oper} {f : FuncId} {args : Array Value} {R : Value → Heap → Prop} {K : Env → Heap → Prop}
    (hr : ∀ w : World, (execOp (ev N ρ) o).run P w = .ok (.enter f args) w) (hc : Ret P f args h R)
    (k : ∀ v h', R v h' → K (put N ρ o.dst v) h') : owp P N o ρ h K := by
  intro w a ha hh K' hK
  unfold xwp
  rw [ha.eval, hr]
  refine (hc w hh).mono ?_
  rintro e w' ⟨v, rfl, hs, hR⟩
  exact ⟨v, rfl, hK _ _ _ (ha.put _ _) (put_defers _ _ _) hs (k v _ hR)⟩
theorem owp_callF {dst : Option Tmp} {fo : Operand} {as : Array Operand} {ats : Array TypeId} {ty : TypeId} {pos : String} {aft : Array Edge} {g : Option (Nat × Bool)}
    {f : FuncId} {args : Array Value} {R : Value → Heap → Prop} {K : Env → Heap → Prop}
    (hp : pureRun P (execOp (ev N ρ) ⟨dst, .call ⟨.value fo, as, ats⟩, ty, pos, aft, g⟩) = some (.enter f args)) (hc : Ret P f args h R)
    (k : ∀ v h', R v h' → K (put N ρ dst v) h') : owp P N ⟨dst, .call ⟨.value fo, as, ats⟩, ty, pos, aft, g⟩ ρ h K :=
  owp_call (fun w => pureRun_run hp w) hc k
end
end Go.Proofs.YtjkbhpokboolpaaGreatDoor.Sx
