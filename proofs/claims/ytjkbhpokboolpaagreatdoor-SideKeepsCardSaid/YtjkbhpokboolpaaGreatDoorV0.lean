import Derived.Test.YtjkbhpokboolpaaGreatDoorSxH
namespace Go.Proofs.YtjkbhpokboolpaaGreatDoor.Sx
open Go
inductive Kn where
  | c (c : Code)
  | o (all l : List Oper)
  | b (id : Nat)
def kQ (P : Program) (N : Nat) (Q : Post) : List Kn → Post
  | [] => Q
  | .c c :: k => thenQ (cwp P N c (kQ P N Q k)) (kQ P N Q k)
  | .o all l :: k => thenQ (lwp P N all.toArray (kQ P N Q k) l) (kQ P N Q k)
  | .b id :: k => blockQ id (kQ P N Q k)
def kwp (P : Program) (N : Nat) (Q : Post) (k : List Kn) (ρ : Env) (h : Heap) : Prop := kQ P N Q k .normal ρ h
def unw (i : Nat) : List Kn → Option (List Kn)
  | [] => none
  | .b j :: k => bif Nat.beq i j then some k else unw i k
  | .c _ :: k => unw i k
  | .o _ _ :: k => unw i k
def ctl : Nat → List Bool → List Kn → List Kn
  | 0, _, k => k
  | _ + 1, _, [] => []
  | n + 1, bs, .b _ :: k => ctl n bs k
  | n + 1, bs, .o _ [] :: k => ctl n bs k
  | n + 1, bs, .o a (_ :: l) :: k => ctl n bs (.o a l :: k)
  | n + 1, bs, .c (.seq x y) :: k => ctl n bs (.c x :: .c y :: k)
  | n + 1, bs, .c .skip :: k => ctl n bs k
  | n + 1, bs, .c (.block i x) :: k => ctl n bs (.c x :: .b i :: k)
  | n + 1, bs, .c (.region _ ops false) :: k => ctl n bs (.o ops.toList ops.toList :: k)
  | n + 1, true :: bs, .c (.cond _ x _) :: k => ctl n bs (.c x :: k)
  | n + 1, false :: bs, .c (.cond _ _ y) :: k => ctl n bs (.c y :: k)
  | n + 1, bs, .c (.exit i) :: k => match unw i k with
    | some k' => ctl n bs k'
    | none => .c (.exit i) :: k
  | _ + 1, _, k => k
def dat (P : Program) (N : Nat) : Nat → List Bool → List Kn → Env → Option Env
  | 0, _, _, ρ => some ρ
  | _ + 1, _, [], _ => none
  | n + 1, bs, .b _ :: k, ρ => dat P N n bs k ρ
  | n + 1, bs, .o _ [] :: k, ρ => dat P N n bs k ρ
  | n + 1, bs, .o a (o :: l) :: k, ρ => match step1 P N a.toArray o ρ with
    | some ρ' => dat P N n bs (.o a l :: k) ρ'
    | none => none
  | n + 1, bs, .c (.seq x y) :: k, ρ => dat P N n bs (.c x :: .c y :: k) ρ
  | n + 1, bs, .c .skip :: k, ρ => dat P N n bs k ρ
  | n + 1, bs, .c (.block i x) :: k, ρ => dat P N n bs (.c x :: .b i :: k) ρ
  | n + 1, bs, .c (.region _ ops false) :: k, ρ => dat P N n bs (.o ops.toList ops.toList :: k) ρ
  | n + 1, true :: bs, .c (.cond c x _) :: k, ρ => match ev N ρ c with
    | .bool true => dat P N n bs (.c x :: k) ρ
    | _ => none
  | n + 1, false :: bs, .c (.cond c _ y) :: k, ρ => match ev N ρ c with
    | .bool false => dat P N n bs (.c y :: k) ρ
    | _ => none
  | n + 1, bs, .c (.exit i) :: k, ρ => match unw i k with
    | some k' => dat P N n bs k' ρ
    | none => none
  | _ + 1, _, _, _ => none
section
variable {P : Program} {N : Nat} {Q : Post} {ρ : Env} {h : Heap}
theorem blockQ_exit {i j : Nat} {Q : Post} : blockQ j Q (.exit i) ρ h = (bif Nat.beq i j then Q .normal ρ h else Q (.exit i) ρ h) := rfl
theorem exit_unw {i : Nat} : ∀ {k k' : List Kn}, unw i k = some k' → kQ P N Q k' .normal ρ h → kQ P N Q k (.exit i) ρ h
  | [], _, e, _ => by cases e
  | .b j :: k, k', e, q => by
    unfold unw at e
    show blockQ j (kQ P N Q k) (.exit i) ρ h
    rw [blockQ_exit]
    cases hb : Nat.beq i j with
    | true => rw [hb, cond_true] at e; obtain rfl := Option.some.inj e; exact q
    | false => rw [hb, cond_false] at e; exact exit_unw e q
  | .c c :: k, k', e, q => exit_unw (k := k) e q
  | .o a l :: k, k', e, q => exit_unw (k := k) e q
theorem go_ok : ∀ {n : Nat} {bs : List Bool} {k : List Kn} {ρ ρ' : Env}, dat P N n bs k ρ = some ρ' → kQ P N Q (ctl n bs k) .normal ρ' h → kQ P N Q k .normal ρ h := by
  intro n
  induction n with
  | zero => intro bs k ρ ρ' e q; obtain rfl := Option.some.inj e; exact q
  | succ n ih =>
    intro bs k ρ ρ' e q
    match k with
    | [] => cases e
    | .b i :: k => exact ih (k := k) e q
    | .o a [] :: k => exact lwp_nil (ih (k := k) e q)
    | .o a (o :: l) :: k =>
      unfold dat at e
      split at e
      · rename_i ρ1 hs
        exact lwp_step hs (ih (k := .o a l :: k) e q)
      · cases e
    | .c (.seq x y) :: k => exact cwp_seq (ih (k := .c x :: .c y :: k) e q)
    | .c .skip :: k => exact cwp_skip (ih (k := k) e q)
    | .c (.block i x) :: k => exact cwp_block (ih (k := .c x :: .b i :: k) e q)
    | .c (.region i ops false) :: k =>
      have := ih (k := .o ops.toList ops.toList :: k) e q
      have e1 : ops = ops.toList.toArray := rfl
      exact cwp_region (l := ops.toList) this
    | .c (.exit i) :: k =>
      unfold dat at e
      unfold ctl at q
      split at e
      · rename_i k' hu
        rw [hu] at q
        exact cwp_exit (exit_unw hu (ih (k := k') e q))
      · cases e
    | .c (.cond c x y) :: k =>
      cases bs with
      | nil => cases e
      | cons b bs =>
        cases b with
        | true =>
          unfold dat at e
          split at e
          · rename_i hc; exact cwp_true hc (ih (k := .c x :: k) e q)
          · cases e
        | false =>
          unfold dat at e
          split at e
          · rename_i hc; exact cwp_false hc (ih (k := .c y :: k) e q)
          · cases e
    | .c (.region i ops true) :: k => cases e
    | .c (.loop x) :: k => cases e
    | .c (.rangeFunc _ _ _ _) :: k => cases e
    | .c (.scope _) :: k => cases e
    | .c (.label _) :: k => cases e
    | .c (.goto _) :: k => cases e
    | .c .ret :: k => cases e
    | .c (.refuse _) :: k => cases e
theorem st (n : Nat) (bs : List Bool) {k : List Kn} (next : kwp P N Q (ctl n bs k) ((dat P N n bs k ρ).getD []) h) (hd : (dat P N n bs k ρ).isSome = true := by kernel_rfl) : kwp P N Q k ρ h := by
  cases hx : dat P N n bs k ρ with
  | none => rw [hx] at hd; cases hd
  | some ρ' => rw [hx] at next; exact go_ok hx next
theorem k_in {c : Code} (k : kwp P N Q [.c c] ρ h) : cwp P N c Q ρ h := k
theorem kq_ret : ∀ (k : List Kn), Q .ret ρ h → kQ P N Q k .ret ρ h
  | [], q => q
  | .c _ :: k, q => kq_ret k q
  | .o _ _ :: k, q => kq_ret k q
  | .b _ :: k, q => kq_ret k q
theorem k_retQ {k : List Kn} (q : Q .ret ρ h) : kwp P N Q (.c .ret :: k) ρ h := cwp_ret (kq_ret k q)
theorem k_op {all l : List Oper} {k : List Kn} {o : Oper} (K : owp P N o ρ h (kwp P N Q (.o all l :: k))) (hw : Region.wanted o (yd N all.toArray ρ) = true := by kernel_rfl) : kwp P N Q (.o all (o :: l) :: k) ρ h := lwp_op hw K
theorem k_join (J : Env → Heap → Prop) {c : Code} {k : List Kn} (hx : kwp P N (thenQ J (kQ P N Q k)) [.c c] ρ h) (hy : ∀ ρ h, J ρ h → kwp P N Q k ρ h) : kwp P N Q (.c c :: k) ρ h := by
  refine cwp_mono (c := c) (Q := thenQ J (kQ P N Q k)) (k_in hx) ?_
  intro e ρ h q
  cases e with
  | normal => exact hy _ _ q
  | exit i => exact q
  | ret => exact q
theorem lwp_rebase {ops : Array Oper} {l : List Oper} (L : Env) (hL : ∀ p ∈ L, get ρ p.1 = p.2) (k : lwp P N ops Q l (L ++ ρ) h) : lwp P N ops Q l ρ h :=
  fun W w a ha hs hh => k W w a (ha.congr fun t => (get_append L hL t).symm) hs hh
def rb : List Kn → Bool
  | [] => false
  | .c _ :: _ => true
  | .o _ _ :: _ => true
  | .b _ :: k => rb k
theorem k_fits (L : Env) (hL : Fits L ρ) : ∀ {k : List Kn}, kwp P N Q k (L ++ ρ) h → rb k = true → kwp P N Q k ρ h
  | [], _, e => by cases e
  | .c _ :: _, q, _ => cwp_rebase L hL.all q
  | .o _ _ :: _, q, _ => lwp_rebase L hL.all q
  | .b _ :: k, q, e => k_fits L hL (k := k) q e
theorem k_end {J : Env → Heap → Prop} (q : J ρ h) : kwp P N (thenQ J Q) [] ρ h := q
theorem k_out {i : Nat} {k : List Kn} (hu : unw i k = none) (q : Q (.exit i) ρ h) : kwp P N Q (.c (.exit i) :: k) ρ h := by
  refine cwp_exit ?_
  induction k with
  | nil => exact q
  | cons x k ih =>
    cases x with
    | c c => exact ih hu
    | o a l => exact ih hu
    | b j =>
      unfold unw at hu
      show blockQ j (kQ P N Q k) (.exit i) ρ h
      rw [blockQ_exit]
      cases hb : Nat.beq i j with
      | true => rw [hb, cond_true] at hu; cases hu
      | false => rw [hb, cond_false] at hu; exact ih hu
theorem q_out {i : Nat} {k : List Kn} (hu : unw i k = none) (q : Q (.exit i) ρ h) : kQ P N Q k (.exit i) ρ h := by
  induction k with
  | nil => exact q
  | cons x k ih =>
    cases x with
    | c c => exact ih hu
    | o a l => exact ih hu
    | b j =>
      unfold unw at hu
      show blockQ j (kQ P N Q k) (.exit i) ρ h
      rw [blockQ_exit]
      cases hb : Nat.beq i j with
      | true => rw [hb, cond_true] at hu; cases hu
      | false => rw [hb, cond_false] at hu; exact ih hu
theorem q_in {i : Nat} {k k' : List Kn} (hu : unw i k = some k') (q : kwp P N Q k' ρ h) : kQ P N Q k (.exit i) ρ h := exit_unw hu q
def loopQ (id : Nat) (I J : Env → Heap → Prop) (Q : Post) : Post
  | .normal, ρ, h => I ρ h
  | .exit i, ρ, h => bif Nat.beq i id then J ρ h else Q (.exit i) ρ h
  | .ret, ρ, h => Q .ret ρ h
theorem k_loop (id : Nat) (I : Nat → Env → Heap → Prop) (J : Env → Heap → Prop) {c : Code} {k k' : List Kn} (n : Nat) (h0 : I n ρ h)
    (round : ∀ n ρ h, I n ρ h → kwp P N (loopQ id (fun ρ h => ∃ m, m < n ∧ I m ρ h) J (kQ P N Q k)) [.c c] ρ h)
    (hu : unw id k = some k') (rest : ∀ ρ h, J ρ h → kwp P N Q k' ρ h) : kwp P N Q (.c (.loop c) :: k) ρ h := by
  refine cwp_loop (c := c) I n h0 fun n ρ h hI => ?_
  refine cwp_mono (c := c) (k_in (round n ρ h hI)) ?_
  intro e ρ h q
  cases e with
  | normal => exact q
  | ret => exact q
  | exit i =>
    simp only [loopQ, thenQ] at q ⊢
    cases hb : Nat.beq i id with
    | true => rw [hb, cond_true] at q; obtain rfl := Nat.eq_of_beq_eq_true hb; exact exit_unw hu (rest _ _ q)
    | false => rw [hb, cond_false] at q; exact q
theorem k_loopR (I : Nat → Env → Heap → Prop) {c : Code} {k : List Kn} (n : Nat) (h0 : I n ρ h)
    (round : ∀ n ρ h, I n ρ h → kwp P N (thenQ (fun ρ h => ∃ m, m < n ∧ I m ρ h) (kQ P N Q k)) [.c c] ρ h) : kwp P N Q (.c (.loop c) :: k) ρ h :=
  cwp_loop (c := c) I n h0 fun n ρ h hI => k_in (round n ρ h hI)
theorem k_endL {id : Nat} {I J : Env → Heap → Prop} (q : I ρ h) : kwp P N (loopQ id I J Q) [] ρ h := q
theorem krJ {J : Env → Heap → Prop} {k : List Kn} (q : Q .ret ρ h) : thenQ J (kQ P N Q k) .ret ρ h := kq_ret k q
theorem krL {id : Nat} {I J : Env → Heap → Prop} {k : List Kn} (q : Q .ret ρ h) : loopQ id I J (kQ P N Q k) .ret ρ h := kq_ret k q
theorem xJ {J : Env → Heap → Prop} {i : Nat} (q : Q (.exit i) ρ h) : thenQ J Q (.exit i) ρ h := q
theorem xE {id : Nat} {I J : Env → Heap → Prop} (q : J ρ h) : loopQ id I J Q (.exit id) ρ h := by
  show (bif Nat.beq id id then J ρ h else Q (.exit id) ρ h)
  rw [Nat.beq_refl]; exact q
theorem k_if {α : Type} {all l : List Oper} {k : List Kn} {o : Oper} {b : Bool} {x y : Option α} {r : α} (H : (bif b then x else y) = some r)
    (t : b = true → x = some r → kwp P N Q (.o all l :: k) (put N ρ o.dst (.bool true)) h) (f : b = false → y = some r → kwp P N Q (.o all l :: k) (put N ρ o.dst (.bool false)) h)
    (hp : pureRun P (execOp (ev N ρ) o) = some (.value (.bool b)) := by kernel_rfl) (hw : Region.wanted o (yd N all.toArray ρ) = true := by kernel_rfl) : kwp P N Q (.o all (o :: l) :: k) ρ h := by
  refine k_op (owp_pure (.bool b) hp ?_) hw
  cases b with
  | true => exact t rfl H
  | false => exact f rfl H
theorem k_ite {α : Type} {all l : List Oper} {k : List Kn} {o : Oper} {p : Prop} [inst : Decidable p] {x y : Option α} {r : α} (H : (if p then x else y) = some r)
    (t : p → x = some r → kwp P N Q (.o all l :: k) (put N ρ o.dst (.bool true)) h) (f : ¬ p → y = some r → kwp P N Q (.o all l :: k) (put N ρ o.dst (.bool false)) h)
    (hp : pureRun P (execOp (ev N ρ) o) = some (.value (.bool (decide p))) := by kernel_rfl) (hw : Region.wanted o (yd N all.toArray ρ) = true := by kernel_rfl) : kwp P N Q (.o all (o :: l) :: k) ρ h := by
  refine k_op (owp_pure (.bool (decide p)) hp ?_) hw
  by_cases c : p
  · rw [if_pos c] at H; rw [decide_eq_true c]; exact t c H
  · rw [if_neg c] at H; rw [decide_eq_false c]; exact f c H
theorem k_iteN {α : Type} {all l : List Oper} {k : List Kn} {o : Oper} {p : Prop} [inst : Decidable p] {x y : Option α} {r : α} (H : (if p then x else y) = some r)
    (t : p → x = some r → kwp P N Q (.o all l :: k) (put N ρ o.dst (.bool false)) h) (f : ¬ p → y = some r → kwp P N Q (.o all l :: k) (put N ρ o.dst (.bool true)) h)
    (hp : pureRun P (execOp (ev N ρ) o) = some (.value (.bool (!decide p))) := by kernel_rfl) (hw : Region.wanted o (yd N all.toArray ρ) = true := by kernel_rfl) : kwp P N Q (.o all (o :: l) :: k) ρ h := by
  refine k_op (owp_pure (.bool (!decide p)) hp ?_) hw
  by_cases c : p
  · rw [if_pos c] at H; rw [decide_eq_true c]; exact t c H
  · rw [if_neg c] at H; rw [decide_eq_false c]; exact f c H
theorem k_val {all l : List Oper} {k : List Kn} {o : Oper} (v : Value) (hp : pureRun P (execOp (ev N ρ) o) = some (.value v)) (q : kwp P N Q (.o all l :: k) (put N ρ o.dst v) h) (hw : Region.wanted o (yd N all.toArray ρ) = true := by kernel_rfl) : kwp P N Q (.o all (o :: l) :: k) ρ h :=
  k_op (owp_pure v hp q) hw
theorem k_spl {α : Type} {k : List Kn} {d : Option Tmp} {b : Bool} {x y : Option α} {r : α} (H : (bif b then x else y) = some r)
    (t : b = true → x = some r → kwp P N Q k (put N ρ d (.bool true)) h) (f : b = false → y = some r → kwp P N Q k (put N ρ d (.bool false)) h) : kwp P N Q k (put N ρ d (.bool b)) h := by
  cases b with
  | true => exact t rfl H
  | false => exact f rfl H
end
theorem fn_of {P : Program} {N : Nat} {f : FuncId} {fn : Func} {c : Code} {args : List Value} {rs : List ResultVar} {R : Value → Heap → Prop} {h : Heap}
    (hf : P.funcs[f]? = some fn) (hb : fn.body = some c) (hn : fn.ntmps = N) (hrs : fn.results = rs.toArray) (hN : Nat.ble args.length N = true)
    (k : kwp P N (retQ N rs R) [.c c] (argEnv 0 args) h) : Ret P f args.toArray h R := ret_of hf hb hn hrs (Nat.le_of_ble_eq_true hN) (k_in k)
theorem fn_of2 {P : Program} {N : Nat} {f : FuncId} {fn : Func} {c : Code} {args : List Value} {rs : List ResultVar} {R : Value → Heap → Prop} {h : Heap}
    (hf : P.funcs[f]? = some fn) (hb : fn.body = some c) (hn : fn.ntmps = N) (hrs : fn.results = rs.toArray) (hN : Nat.ble args.length N = true)
    (k : kwp P N (retQ2 P N rs R) [.c c] (argEnv 0 args) h) : Ret P f args.toArray h R := ret_of2 hf hb hn hrs (Nat.le_of_ble_eq_true hN) (k_in k)
end Go.Proofs.YtjkbhpokboolpaaGreatDoor.Sx
