import Derived.Defers
import Derived.DefersIn
import Derived.Test.YtfkdbplnjlkcdaaGreatDoorV9
namespace Go.Proofs.YtfkdbplnjlkcdaaGreatDoor.Sx
open Go
def RetD (P : Program) (f : FuncId) (args : Array Value) (h : Heap) (R : Value → Heap → Prop) : Prop :=
  ∀ (u : FrameMode) (w : World), w.heap = h → CallsD P f args u w fun e u' w' => u' = u ∧ ∃ v, e = .returned v ∧ Same w w' ∧ R v w'.heap
def FcD (P : Program) (f : FuncId) (args : Array Value) (ins : List Rs) (B I : Gh) (h : Heap) (out : Value → List Rs → Prop) : Prop :=
  St (en ins B I h) ins I h → RetD P f args h (fun v h' => ∃ I' L, out v L ∧ St (en ins B I h) L I' h')
theorem fcD_of {P : Program} {f : FuncId} {args : Array Value} {ins : List Rs} {B I : Gh} {h : Heap} {out : Value → List Rs → Prop}
    (k : ∀ E, St E ins I h → RetD P f args h (fun v h' => ∃ I' L, out v L ∧ St E L I' h')) : FcD P f args ins B I h out := fun hs => k _ hs
theorem fnD_of {P : Program} {N : Nat} {f : FuncId} {fn : Func} {c : Code} {args : List Value} {rs : List ResultVar} {R : Value → Heap → Prop} {h : Heap}
    (hf : P.funcs[f]? = some fn) (hb : fn.body = some c) (hn : fn.ntmps = N) (hrs : fn.results = rs.toArray) (hN : Nat.ble args.length N = true)
    (k : kwp P N (retQ N rs R) [.c c] (argEnv 0 args) h) : RetD P f args.toArray h R := by
  intro u w hw
  refine callsD_of_wp (R := fun e w' => ∃ v, e = .returned v ∧ Same w w' ∧ R v w'.heap) hf hb ?_
  have hr := rel_args (N := N) (Nat.le_of_ble_eq_true hN)
  have := wpIn_wide.1 (k_in k none w w _ hr (Same.refl w) hw)
  rw [hn]
  simp only [List.size_toArray]
  refine Code.wp_mono (fun e a' w' hq => ?_) this
  unfold lift at hq
  cases e <;> simp only [exOf] at hq <;> first
    | exact hq.elim
    | (obtain ⟨ρ', hr', hd, hs', hq⟩ := hq
       first
         | exact hq.elim
         | (obtain ⟨v, hv, hR⟩ := hq
            exact ⟨hd, v, results_of hrs hr' hv w', v, rfl, hs', hR⟩))
def dfOps (fn : Func) : List Oper :=
  match fn.body with
  | some (.seq _ (.seq _ (.block _ (.seq (.block _ (.seq _ (.region _ ops _))) _)))) => ops.toList
  | _ => []
def dfLast : List Oper → Oper
  | [] => ⟨none, .move (.tmp 0), 0, "", #[], none⟩
  | [o] => o
  | _ :: o :: l => dfLast (o :: l)
section
variable {P : Program} {N : Nat} {ρ : Env} {h : Heap}
def noQ : Post := fun _ _ _ => False
def bQ (i3 : Nat) (J1 J2 F : Env → Heap → Prop) : Post
  | .normal, ρ, h => J1 ρ h
  | .exit i, ρ, h => i = i3 ∧ J2 ρ h
  | .ret, ρ, h => F ρ h
def zQ (i0 : Nat) (F : Env → Heap → Prop) : Post
  | .exit i, ρ, h => i = i0 ∧ F ρ h
  | _, _, _ => False
theorem wpList_defer {ops : Array Oper} {Q : Exit → Act → World → Prop} {l2 : List Oper} : ∀ {l : List Oper} {a : Act} {w : World},
    wpListX P ops (fun a w => wpListIn (fen none) 0 P ops Q l2 a w) l a w → wpListIn (fen none) 0 P ops Q (l ++ l2) a w
  | [], _, _, x => x
  | o :: rest, a, w, x => by
    unfold wpListX at x
    show wpListIn (fen none) 0 P ops Q (o :: (rest ++ l2)) a w
    unfold wpListIn
    split
    · rename_i hw
      rw [if_pos hw] at x
      exact xwp_in none (xwp_mono (fun _ _ _ k => wpList_defer k) x)
    · rename_i hw
      rw [if_neg hw] at x
      exact ⟨fun _ _ => trivial, wpList_defer x⟩
theorem wpListX_mono {ops : Array Oper} {K K' : Act → World → Prop} (hk : ∀ a w, K a w → K' a w) : ∀ {l : List Oper} {a : Act} {w : World}, wpListX P ops K l a w → wpListX P ops K' l a w
  | [], _, _, x => hk _ _ x
  | o :: rest, a, w, x => by
    unfold wpListX at x ⊢
    split
    · rename_i hw
      rw [if_pos hw] at x
      exact xwp_mono (fun _ _ _ k => wpListX_mono hk k) x
    · rename_i hw
      rw [if_neg hw] at x
      exact wpListX_mono hk x
theorem fn_defer {f : FuncId} {fn : Func} {X Y B Z : Code} {i0 i3 rid : Nat} {pre : List Oper} {D : Oper} {args : List Value} {rs : List ResultVar} {R : Value → Heap → Prop}
    {JA J1 J2 JD F : Env → Heap → Prop} {J3 G : Deferred → Env → Heap → Prop}
    (hf : P.funcs[f]? = some fn) (hb : fn.body = some (X.seq (Y.seq (.block i0 ((Code.block i3 (B.seq (.region rid (pre ++ [D]).toArray false))).seq Z))))) (hn : fn.ntmps = N) (hrs : fn.results = rs.toArray) (hN : Nat.ble args.length N = true) (hne : i3 ≠ i0)
    (hA : kwp P N (thenQ JA noQ) [.c X, .c Y] (argEnv 0 args) h)
    (hB : ∀ ρ h, JA ρ h → kwp P N (bQ i3 J1 J2 F) [.c B] ρ h)
    (hD : ∀ ρ h, J1 ρ h → kwp P N (thenQ JD noQ) [.o (pre ++ [D]) pre] ρ h)
    (hDd : ∀ ρ h, JD ρ h → Region.wanted D (yd N (pre ++ [D]).toArray ρ) = true ∧ ∃ d, (∀ w : World, w.heap = h → (execOp (ev N ρ) D).run P w = .ok (.defer d) w) ∧ J3 d (put N ρ D.dst undef) h)
    (hZ2 : ∀ ρ h, J2 ρ h → kwp P N (zQ i0 F) [.c Z] ρ h)
    (hZ3 : ∀ d ρ h, J3 d ρ h → kwp P N (zQ i0 (G d)) [.c Z] ρ h)
    (hF : ∀ ρ h, F ρ h → ∃ v, resE N ρ rs = some v ∧ R v h)
    (hG : ∀ d ρ h, G d ρ h → ∃ fv cap dargs f' args' R', d = ⟨.fn fv cap, dargs⟩ ∧ (∀ w : World, w.heap = h → (invoke (.fn fv cap) dargs).run P w = .ok (.enter f' args') w) ∧ RetD P f' args' h R' ∧ ∀ v h', R' v h' → ∃ v, resE N ρ rs = some v ∧ R v h') :
    Ret P f args.toArray h R := by
  intro w hw
  refine calls_of_wp_defers (R := fun e w' => ∃ v, e = .returned v ∧ Same w w' ∧ R v w'.heap) hf hb ?_
  have hr := rel_args (N := N) (Nat.le_of_ble_eq_true hN)
  rw [hn]
  simp only [List.size_toArray]
  refine (wpIn_wide (n := 0)).1 ?_
  have piece : ∀ {c : Code} {Q : Post} {ρ : Env} {h : Heap} {a : Act} {w1 : World} {T : Exit → Act → World → Prop}, cwp P N c Q ρ h → Rel N ρ a → Same w w1 → w1.heap = h →
      (∀ e x a' w' ρ', exOf e = some x → Rel N ρ' a' → a'.defers = a.defers → Same w w' → Q x ρ' w'.heap → T e a' w') → c.wpIn (fen none) 0 P T a w1 := by
    intro c Q ρ h a w1 T k ha hs hh hq
    refine wpIn_mono (k none w w1 a ha hs hh) (fun e a' w' q => ?_)
    unfold lift at q
    cases hx : exOf e with
    | none => rw [hx] at q; exact q.elim
    | some x =>
      rw [hx] at q
      obtain ⟨ρ', r', d', s', q⟩ := q
      exact hq e x a' w' ρ' hx r' d' s' q
  have fin : ∀ {a : Act} {w1 : World} {ρ : Env}, Rel N ρ a → a.defers = [] → Same w w1 → F ρ w1.heap → Leaves P fn a.tmps (fun e w' => ∃ v, e = .returned v ∧ Same w w' ∧ R v w'.heap) a.defers .returning w1 := by
    intro a w1 ρ r d s q
    obtain ⟨v, hv, hR⟩ := hF _ _ q
    rw [d]
    exact ⟨v, results_of hrs r hv w1, v, rfl, s, hR⟩
  have fin3 : ∀ {d : Deferred} {a : Act} {w1 : World} {ρ : Env}, Rel N ρ a → a.defers = [d] → Same w w1 → G d ρ w1.heap → Leaves P fn a.tmps (fun e w' => ∃ v, e = .returned v ∧ Same w w' ∧ R v w'.heap) a.defers .returning w1 := by
    intro d a w1 ρ r hd s q
    obtain ⟨fv, cap, dargs, f', args', R', rfl, hi, hR', hk⟩ := hG _ _ _ q
    rw [hd]
    refine leaves_cons (by simp) (hi w1 rfl) ((hR' .returning w1 rfl).mono ?_)
    rintro e u' w2 ⟨rfl, v, rfl, s2, q2⟩
    obtain ⟨v', hv, hR⟩ := hk _ _ q2
    exact ⟨v', results_of hrs r hv w2, v', rfl, s.trans s2, hR⟩
  show Code.wpIn (fen none) 0 P _ _ _ _
  refine wpIn_seq (piece (Q := kQ P N (thenQ JA noQ) [.c Y]) hA hr (Same.refl w) hw ?_)
  intro e x a1 w1 ρ1 ex r1 d1 s1 q1
  cases e <;> simp only [exOf] at ex <;> first | (cases ex; done) | (obtain rfl := Option.some.inj ex)
  all_goals first | exact q1.elim | skip
  refine wpIn_seq (piece (Q := thenQ JA noQ) q1 r1 s1 rfl ?_)
  intro e x a2 w2 ρ2 ex r2 d2 s2 q2
  cases e <;> simp only [exOf] at ex <;> first | (cases ex; done) | (obtain rfl := Option.some.inj ex)
  all_goals first | exact q2.elim | skip
  have d2 : a2.defers = [] := d2.trans d1
  refine wpIn_block (wpIn_seq (wpIn_block (wpIn_seq (piece (hB _ _ q2) r2 s2 rfl ?_))))
  have hz2 : ∀ {a : Act} {w1 : World} {ρ : Env}, Rel N ρ a → a.defers = [] → Same w w1 → J2 ρ w1.heap → Z.wpIn (fen none) 0 P (Exit.inBlock i0 (bodyPostD P fn (fun e w' => ∃ v, e = .returned v ∧ Same w w' ∧ R v w'.heap))) a w1 := by
    intro a w1 ρ r d s q
    refine piece (hZ2 _ _ q) r s rfl ?_
    intro e x a' w' ρ' ex r' d' s' q'
    cases e <;> simp only [exOf] at ex <;> first | (cases ex; done) | (obtain rfl := Option.some.inj ex)
    all_goals first | exact q'.elim | skip
    obtain ⟨rfl, q'⟩ := q'
    show (if _ = _ then _ else _)
    rw [if_pos rfl]
    exact fin r' (d'.trans d) s' q'
  have hz3 : ∀ {d : Deferred} {a : Act} {w1 : World} {ρ : Env}, Rel N ρ a → a.defers = [d] → Same w w1 → J3 d ρ w1.heap → Z.wpIn (fen none) 0 P (Exit.inBlock i0 (bodyPostD P fn (fun e w' => ∃ v, e = .returned v ∧ Same w w' ∧ R v w'.heap))) a w1 := by
    intro dd a w1 ρ r d s q
    refine piece (hZ3 _ _ _ q) r s rfl ?_
    intro e x a' w' ρ' ex r' d' s' q'
    cases e <;> simp only [exOf] at ex <;> first | (cases ex; done) | (obtain rfl := Option.some.inj ex)
    all_goals first | exact q'.elim | skip
    obtain ⟨rfl, q'⟩ := q'
    show (if _ = _ then _ else _)
    rw [if_pos rfl]
    exact fin3 r' (d'.trans d) s' q'
  intro e x a3 w3 ρ3 ex r3 d3 s3 q3
  have d3 : a3.defers = [] := d3.trans d2
  cases e <;> simp only [exOf] at ex <;> first | (cases ex; done) | (obtain rfl := Option.some.inj ex)
  · -- normal: the deferring region
    refine wpIn_region_lit (wpList_defer ?_)
    have k := hD _ _ q3 w w3 a3 r3 s3 rfl
    refine wpListX_mono ?_ k
    intro a4 w4 k4
    obtain ⟨ρ4, r4, d4, s4, q4⟩ := k4
    obtain ⟨hw4, d, he, q5⟩ := hDd _ _ q4
    unfold wpListIn
    rw [r4.yielded, hw4, if_pos rfl]
    refine ⟨fun _ _ => trivial, ?_⟩
    show Oper.uponIn _ _ _ _ _ _ _ ((execOp a4.eval D).run P w4)
    rw [r4.eval, he w4 rfl]
    have r5 : Rel N (put N ρ4 D.dst undef) ({ a4 with defers := d :: a4.defers }.put D.dst undef) := Rel.put (a := { a4 with defers := d :: a4.defers }) ⟨r4.size, r4.get⟩ _ _
    refine hz3 r5 (by rw [put_defers]; show d :: a4.defers = [d]; rw [d4, d3]) s4 q5
  · -- an exit
    obtain ⟨rfl, q3⟩ := q3
    show (if _ = _ then _ else _)
    rw [if_pos rfl]
    exact hz2 r3 d3 s3 q3
  · exact fin r3 d3 s3 q3
end
end Go.Proofs.YtfkdbplnjlkcdaaGreatDoor.Sx
