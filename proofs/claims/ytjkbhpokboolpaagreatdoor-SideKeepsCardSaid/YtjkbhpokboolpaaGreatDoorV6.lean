import Derived.Test.YtjkbhpokboolpaaGreatDoorV3
namespace Go.Proofs.YtjkbhpokboolpaaGreatDoor.Sx
open Go
structure Grown (h h' : Heap) : Prop where
  size : h.size ≤ h'.size
  keep : ∀ b, b < h.size → h'[b]? = h[b]?
  un : ∀ b, (b < h.size → UnF h b) → UnF h' b
theorem Grown.refl (h : Heap) : Grown h h := ⟨Nat.le_refl _, fun _ _ => rfl, un_refl⟩
theorem Grown.trans {a b c : Heap} (x : Grown a b) (y : Grown b c) : Grown a c := ⟨Nat.le_trans x.size y.size, fun k hk => (y.keep k (Nat.lt_of_lt_of_le hk x.size)).trans (x.keep k hk), fun b z => y.un b (fun _ => x.un b z)⟩
theorem Grown.some {h h' : Heap} (g : Grown h h') {b : Nat} {o : Obj} (e : h[b]? = some o) : h'[b]? = some o := (g.keep b (lt_of_some e)).trans e
theorem Pst.grown {M I I' : Gh} {h h' : Heap} (p : Pst M I h I' h') (hM : ∀ b, ¬ M b) : Grown h h' := ⟨p.size, fun b hb => p.keep b hb (hM b), p.un⟩
def Yld (P : Program) (l : Nat) (args : Array Value) (h : Heap) (R : Bool → Heap → Prop) : Prop :=
  ∀ w : World, w.heap = h → ∃ fn tmps assign body, (Instr.yield l args).run P w = .ok (.round l fn tmps assign body) w ∧
    RoundIn Fence.wide 0 P l fn tmps assign body w fun e w' => ∃ b, e = .returned (.bool b) ∧ Same w w' ∧ R b w'.heap
section
variable {P : Program} {N : Nat} {Q : Post} {ρ : Env} {h : Heap} {K : Env → Heap → Prop}
theorem owp_yield {dst : Option Tmp} {fo : Operand} {as : Array Operand} {ats : Array TypeId} {ty : TypeId} {pos : String} {aft : Array Edge} {g : Option (Nat × Bool)} {l : Nat} {args : Array Value} {R : Bool → Heap → Prop}
    (y : Yld P l args h R) (k : ∀ b h', R b h' → K (put N ρ dst (.bool b)) h') (hf : ev N ρ fo = .func (.yield l) #[] #[] := by kernel_rfl) (ha : as.map (ev N ρ) = args := by kernel_rfl) :
    owp P N ⟨dst, .call ⟨.value fo, as, ats⟩, ty, pos, aft, g⟩ ρ h K := by
  intro w a ra hh K' hK
  obtain ⟨fn, tmps, assign, body, hy, hr⟩ := y w hh
  have hx : (execOp a.eval ⟨dst, .call ⟨.value fo, as, ats⟩, ty, pos, aft, g⟩).run P w = .ok (.round l fn tmps assign body) w := by
    have e1 : (resolve a.eval ⟨.value fo, as, ats⟩ ty).run P w = .ok { target := .fn (.yield l) #[], args := args } w := by
      simp only [resolve, ra.eval, hf, ha]
      simp [go_sem]
    simp only [execOp, Sem.run_bind, e1, Result.andThen, invoke]
    exact hy
  unfold xwp
  rw [hx]
  refine hr.mono ?_
  rintro e w' ⟨b, rfl, hs, hR⟩
  exact ⟨_, rfl, hK _ _ _ (ra.put _ _) (put_defers _ _ _) hs (k b _ hR)⟩
def Iter (P : Program) (g : FuncId) (lb : Array Value) {α : Type} (enc : α → Array Value) (xs : List α) (H0 : Heap → Prop) : Prop :=
  ∀ (l : Nat) (J Jx : List α → Heap → Prop), (∀ pre h, J pre h → H0 h) → (∀ pre h h', J pre h → Grown h h' → J pre h') → (∀ pre h h', Jx pre h → Grown h h' → Jx pre h') →
    (∀ pre x rest h, xs = pre ++ x :: rest → J pre h → Yld P l (enc x) h fun b h' => (b = true ∧ J (pre ++ [x]) h') ∨ (b = false ∧ Jx (pre ++ [x]) h')) →
    ∀ h, J [] h → Ret P g (#[.func (.yield l) #[] #[]] ++ lb) h fun _ h' => J xs h' ∨ ∃ pre, Jx pre h'
def rndQ (Jn : Heap → Prop) (Jx : Code → Heap → Prop) : Post
  | .normal, _, h => Jn h
  | .ret, _, h => Jx .ret h
  | .exit i, _, h => Jx (.exit i) h
def rngQ (N : Nat) (W : World) (ρ : Env) (D : Nat) (Kn : Heap → Prop) (Kx : Code → Heap → Prop) (e : Exit) (a : Act) (w : World) : Prop :=
  Rel N ρ a ∧ a.defers = [{ target := .collected D, args := #[] }] ∧ Same W w ∧ match e with
  | .normal => Kn w.heap
  | .ret => Kx .ret w.heap
  | .exit i => Kx (.exit i) w.heap
  | _ => False
theorem enters_of {g : FuncId} {fn : Func} (hg : P.funcs[g]? = some fn) (hb : fn.body.isNone = false) (hn : (fn.name == "runtime.NumGoroutine") = false) : ∀ args w, (callFunc g args).run P w = .ok (.enter g args) w := by
  intro args w
  simp only [callFunc, Sem.run_bind, program, Sem.run, Result.andThen, hg, hb, hn]
  simp [go_sem]
theorem range_in {α : Type} {f : Operand} {ps : Array Tmp} {assign body : Code} {g : FuncId} {lb : Array Value} {enc : α → Array Value} {xs : List α} {H0 : Heap → Prop} {a : Act} {w W : World}
    (ra : Rel N ρ a) (hd : a.defers = []) (hs : Same W w) (hh : w.heap = h) (hf : ev N ρ f = .func (.func g) #[] lb) (eg : ∀ args w, (callFunc g args).run P w = .ok (.enter g args) w)
    (it : Iter P g lb enc xs H0) (hps : ∀ x, (enc x).size = ps.size)
    (J : Obj → List α → Heap → Prop) (Jx : Obj → Code → Heap → Prop)
    (hH : ∀ o pre h, J o pre h → H0 h) (hG : ∀ o pre h h', J o pre h → Grown h h' → J o pre h') (hGx : ∀ o c h h', Jx o c h → Grown h h' → Jx o c h')
    (hD : ∀ o pre h', J o pre h' → h'[h.size + 1]? = some o) (hDx : ∀ o c h', Jx o c h' → h'[h.size + 1]? = some o)
    (hS : ∀ o o' pre h', UnO o' → J o pre h' → J o' pre (h'.setIfInBounds (h.size + 1) o')) (hSx : ∀ o o' c h', UnO o' → Jx o c h' → Jx o' c (h'.setIfInBounds (h.size + 1) o'))
    (h0 : ∀ o, UnO o → J o [] ((h.push (.deferred (some []))).push o))
    (ρa : α → Env) (hassign : ∀ x (Q : Post) h', Q .normal (ρa x) h' → ∃ ρ', (∀ a' : Act, a'.tmps = (ps.zip (enc x)).foldl (fun t (p, v) => t.setIfInBounds p v) a.tmps → Rel N ρ' a') ∧ cwp P N assign Q ρ' h')
    (hround : ∀ o pre x rest h', xs = pre ++ x :: rest → J o pre h' → cwp P N body (rndQ (J o (pre ++ [x])) (Jx o)) (ρa x) h') :
    (Code.rangeFunc f ps assign body).wpIn Fence.wide 0 P (rngQ N W ρ h.size (fun h' => ∃ o, J o xs h') (fun c h' => ∃ o, Jx o c h')) a w := by
  subst hh
  refine wpIn_rangeFunc ?_
  intro fn hfn
  obtain ⟨rec, hrec⟩ : ∃ rec : LoopState → Option Code → Loop, rec = fun st pe => { state := st, pending := pe, fn, tmps := a.tmps, params := ps, assign, body, defers := w.heap.size } := ⟨_, rfl⟩
  have e1 : ((w.alloc (.deferred (some []))).alloc (.loop (rec .ready none))).heap = (w.heap.push (.deferred (some []))).push (.loop (rec .ready none)) := rfl
  refine ⟨w.heap.size + 1, [{ target := .collected w.heap.size, args := #[] }], (w.alloc (.deferred (some []))).alloc (.loop (rec .ready none)), { target := .fn (.func g) lb, args := #[.func (.yield (w.heap.size + 1)) #[] #[]] }, (w.alloc (.deferred (some []))).alloc (.loop (rec .ready none)), g,
    #[.func (.yield (w.heap.size + 1)) #[] #[]] ++ lb, (w.alloc (.deferred (some []))).alloc (.loop (rec .ready none)), ?_, ?_, fun _ _ => trivial, ?_, fun h => (by cases h), ?_⟩
  · rw [hrec]; exact run_enterLoop_outer _ _ _ _ _
  · simp only [resolve, ra.eval, hf]
    simp [go_sem, ev]
  · simp only [invoke]; exact eg _ _
  · have hS0 : Same W ((w.alloc (.deferred (some []))).alloc (.loop (rec .ready none))) := hs.trans ⟨rfl, rfl, rfl⟩
    have run := it (w.heap.size + 1) (fun pre h' => J (.loop (rec .ready none)) pre h') (fun _ h' => ∃ c, (c = .ret ∨ ∃ i, c = .exit i) ∧ Jx (.loop (rec .done (some c))) c h') (fun pre h' x => hH _ _ _ x) (fun pre h1 h2 x y => hG _ _ _ _ x y) (by rintro _ h1 h2 ⟨c, hc, x⟩ y; exact ⟨c, hc, hGx _ _ _ _ x y⟩) ?_ _ (h0 _ trivial)
    · have := (callsIn_wide (n := 0 - 1)).2 (run _ e1)
      refine this.mono ?_
      rintro e w2 ⟨v, rfl, hs2, hJ⟩
      have hs2 : Same W w2 := hS0.trans hs2
      rcases hJ with hJ | ⟨_, c, hc, hJ⟩
      · have hl := hD _ _ _ hJ
        have := run_endLoop (P := P) (w := w2) (r := rec .ready none) hl (by rw [hrec]; simp)
        refine ⟨none, _, by rw [this, hrec], ?_⟩
        exact ⟨⟨ra.size, ra.get⟩, by simp [hd], hs2.trans ⟨rfl, rfl, rfl⟩, _, hS _ _ _ _ trivial hJ⟩
      · have hl := hDx _ _ _ hJ
        have := run_endLoop (P := P) (w := w2) (r := rec .done (some c)) hl (by rw [hrec]; simp)
        refine ⟨some c, _, by rw [this, hrec], ?_⟩
        rcases hc with rfl | ⟨i, rfl⟩
        · exact wpIn_ret ⟨⟨ra.size, ra.get⟩, by simp [hd], hs2.trans ⟨rfl, rfl, rfl⟩, _, hSx _ _ _ _ trivial hJ⟩
        · exact wpIn_exit ⟨⟨ra.size, ra.get⟩, by simp [hd], hs2.trans ⟨rfl, rfl, rfl⟩, _, hSx _ _ _ _ trivial hJ⟩
    · -- one round
      rintro pre x rest h1 hx hJ w1 rfl
      have hl := hD _ _ _ hJ
      have hy := run_yield (P := P) (w := w1) (args := enc x) hl (by rw [hrec]; exact hps x)
      rw [hrec] at hy
      refine ⟨fn, _, assign, body, hy, roundIn_of_wpIn trivial ?_⟩
      have hJb : J (.loop { rec .ready none with state := .busy }) pre (w1.putObj (w.heap.size + 1) (.loop { rec .ready none with state := .busy })).heap := hS _ _ _ _ trivial hJ
      have hbody := hround _ pre x rest _ hx hJb
      obtain ⟨ρ', hr', has⟩ := hassign x (fun e ρ2 h2 => match e with
        | .normal => ρ2 = ρa x ∧ h2 = w1.heap
        | _ => False) w1.heap ⟨rfl, rfl⟩
      refine wpIn_mono (has (some (w.heap.size + 1)) w1 w1 { tmps := _, defers := [] } (hr' _ rfl) (Same.refl _) rfl) ?_
      intro e a1 w2 hq
      unfold lift at hq
      cases e <;> simp only [exOf] at hq <;> first
        | exact hq.elim
        | (obtain ⟨ρ2, hr2, hd2, hs2, hq⟩ := hq
           first
             | exact hq.elim
             | skip)
      obtain ⟨rfl, hh2⟩ := hq
      have hl2 : w2.heap[w.heap.size + 1]? = some (.loop (rec .ready none)) := by rw [hh2]; exact hl
      refine ⟨_, run_beginRound hl2 (by rw [hrec]), ?_⟩
      have hh3 : (w2.putObj (w.heap.size + 1) (.loop { rec .ready none with state := .busy })).heap = (w1.putObj (w.heap.size + 1) (.loop { rec .ready none with state := .busy })).heap := by
        show w2.heap.setIfInBounds _ _ = w1.heap.setIfInBounds _ _
        rw [hh2]
      refine wpIn_mono (hbody (some (w.heap.size + 1)) w2 _ a1 hr2 ⟨rfl, rfl, rfl⟩ hh3) ?_
      intro e a3 w3 hq
      unfold lift at hq
      have fin : ∀ (jump : Option Code), w3.heap[w.heap.size + 1]? = some (.loop { rec .ready none with state := .busy }) →
          (Instr.endRound (w.heap.size + 1) jump).run P w3 = .ok (.bool jump.isNone) (w3.putObj (w.heap.size + 1) (.loop (rec (if jump.isNone then .ready else .done) jump))) := fun jump hl3 => by
        have := run_endRound (P := P) jump hl3
        rw [hrec] at this ⊢
        exact this
      cases e <;> simp only [exOf] at hq <;> first
        | exact hq.elim
        | (obtain ⟨ρ3, hr3, hd3, hs3, hq⟩ := hq)
      · exact ⟨_, _, fin none (hD _ _ _ hq), true, rfl, hs2.trans (hs3.trans ⟨rfl, rfl, rfl⟩), .inl ⟨rfl, hS _ _ _ _ trivial hq⟩⟩
      · rename_i i
        exact ⟨_, _, fin (some (.exit i)) (hDx _ _ _ hq), false, rfl, hs2.trans (hs3.trans ⟨rfl, rfl, rfl⟩), .inr ⟨rfl, .exit i, .inr ⟨i, rfl⟩, hSx _ _ _ _ trivial hq⟩⟩
      · exact ⟨_, _, fin (some .ret) (hDx _ _ _ hq), false, rfl, hs2.trans (hs3.trans ⟨rfl, rfl, rfl⟩), .inr ⟨rfl, .ret, .inl rfl, hSx _ _ _ _ trivial hq⟩⟩
def finQ (F : Env → Heap → Prop) : Post
  | .exit _, _, _ => False
  | _, ρ, h => F ρ h
def finM (D : Nat) (F : Env → Heap → Prop) (ρ : Env) (h : Heap) : Prop := h[D]? = some (.deferred (some [])) ∧ F ρ (h.setIfInBounds D (.deferred none))
theorem kQ_c {F : Env → Heap → Prop} {J0 : Env → Heap → Prop} : ∀ {cs : List Code} {e : Ex}, e ≠ .normal → kQ P N (thenQ J0 (finQ F)) (cs.map Kn.c) e ρ h → e = .ret ∧ F ρ h
  | [], .normal, n, _ => absurd rfl n
  | [], .exit _, _, q => q.elim
  | [], .ret, _, q => ⟨rfl, q⟩
  | _ :: cs, .normal, n, _ => absurd rfl n
  | _ :: cs, .exit i, n, q => kQ_c (cs := cs) (e := .exit i) n q
  | _ :: cs, .ret, n, q => kQ_c (cs := cs) (e := .ret) n q
theorem pre_in {F : Env → Heap → Prop} {J0 : Env → Heap → Prop} {T : Exit → Act → World → Prop} {B rN : Code} {W : World}
    (hT : ∀ ρ a w, Rel N ρ a → a.defers = [] → Same W w → F ρ w.heap → T .ret a w)
    (hB : ∀ ρ a w, Rel N ρ a → a.defers = [] → Same W w → kwp P N (thenQ J0 (finQ F)) [.c rN] ρ w.heap → B.wpIn Fence.wide 0 P T a w) :
    ∀ (pre : List Code) (ρ : Env) (a : Act) (w : World), Rel N ρ a → a.defers = [] → Same W w → kwp P N (thenQ J0 (finQ F)) ((pre ++ [rN]).map Kn.c) ρ w.heap → (pre.foldr Code.seq B).wpIn Fence.wide 0 P T a w
  | [], ρ, a, w, hr, hd, hs, k => hB ρ a w hr hd hs k
  | c :: pre, ρ, a, w, hr, hd, hs, k => by
    have k1 : cwp P N c (kQ P N (thenQ J0 (finQ F)) ((pre ++ [rN]).map Kn.c)) ρ w.heap := k
    refine wpIn_seq (wpIn_mono (k1 none W w a hr hs rfl) fun e a' w' hq => ?_)
    unfold lift at hq
    cases e <;> simp only [exOf] at hq <;> first
      | exact hq.elim
      | (obtain ⟨ρ', hr', hd', hs', hq⟩ := hq)
    · exact pre_in hT hB pre ρ' a' w' hr' (hd'.trans hd) hs' hq
    · exact absurd (kQ_c (e := .exit _) (fun x => by cases x) hq).1 (fun x => by cases x)
    · exact hT ρ' a' w' hr' (hd'.trans hd) hs' (kQ_c (e := .ret) (fun x => by cases x) hq).2
theorem fn_range {fid : FuncId} {fn : Func} {args : List Value} {R : Value → Heap → Prop} {F : Env → Heap → Prop} (pre : List Code) {rN : Code} {b : Nat} {f : Operand} {ps : Array Tmp} {assign body T : Code}
    (hf : P.funcs[fid]? = some fn) (hb : fn.body = some (pre.foldr Code.seq (.seq (.seq rN (.block b (.rangeFunc f ps assign body))) T))) (hn : fn.ntmps = N) (hN : Nat.ble args.length N = true)
    (hres : ∀ ρ a w, Rel N ρ a → F ρ w.heap → ∃ v, (results fn a.tmps).run P w = .ok v w ∧ R v w.heap) (J0 : Env → Heap → Prop)
    (hpre : kwp P N (thenQ J0 (finQ F)) ((pre ++ [rN]).map Kn.c) (argEnv 0 args) h)
    (hloop : ∀ ρ h1, J0 ρ h1 → ∃ (ρ' : Env) (Kn : Heap → Prop) (Kx : Code → Heap → Prop), (∀ a, Rel N ρ a → Rel N ρ' a) ∧ (∀ a w W, Rel N ρ' a → a.defers = [] → Same W w → w.heap = h1 → (Code.rangeFunc f ps assign body).wpIn Fence.wide 0 P (rngQ N W ρ' h1.size Kn Kx) a w) ∧
      (∀ h2, Kn h2 ∨ Kx (.exit b) h2 → kwp P N (finQ (finM h1.size F)) [.c T] ρ' h2) ∧ (∀ h2, Kx .ret h2 → finM h1.size F ρ' h2) ∧ ∀ i h2, Kx (.exit i) h2 → i = b) :
    Ret P fid args.toArray h R := by
  intro w hw
  refine callsIn_wide.1 (callsIn_of_wp_marks (n := 0) hf hb trivial ?_)
  have hr := rel_args (N := N) (Nat.le_of_ble_eq_true hN)
  rw [hn]
  simp only [List.size_toArray]
  have fin0 : ∀ ρ a w', Rel N ρ a → a.defers = [] → Same w w' → F ρ w'.heap → LeavesInM Fence.wide 0 P fn a.tmps (fun e w' => ∃ v, e = .returned v ∧ Same w w' ∧ R v w'.heap) a.defers .returning w' := by
    intro ρ a w' hr hd hs hF
    obtain ⟨v, hv, hR⟩ := hres ρ a w' hr hF
    rw [hd]
    exact ⟨v, hv, v, rfl, hs, hR⟩
  have fin1 : ∀ D ρ a w', Rel N ρ a → a.defers = [{ target := .collected D, args := #[] }] → Same w w' → finM D F ρ w'.heap → LeavesInM Fence.wide 0 P fn a.tmps (fun e w' => ∃ v, e = .returned v ∧ Same w w' ∧ R v w'.heap) a.defers .returning w' := by
    intro D ρ a w' hr hd hs ⟨hD, hF⟩
    obtain ⟨v, hv, hR⟩ := hres ρ a (w'.putObj D (.deferred none)) hr hF
    rw [hd]
    exact ⟨by simp, .inl ⟨D, _, rfl, run_takeDeferred hD, v, hv, v, rfl, hs.trans ⟨rfl, rfl, rfl⟩, hR⟩⟩
  refine pre_in (W := w) (F := F) (J0 := J0) (fun ρ a w' hr hd hs hF => fin0 ρ a w' hr hd hs hF) ?_ pre _ _ w hr rfl (Same.refl w) (hw ▸ hpre)
  intro ρ a w1 hr hd hs k
  have k1 : cwp P N rN (thenQ J0 (finQ F)) ρ w1.heap := cwp_mono (c := rN) k fun e ρ h q => by cases e <;> exact q
  refine wpIn_seq (wpIn_seq (wpIn_mono (k1 none w w1 a hr hs rfl) fun e a' w' hq => ?_))
  unfold lift at hq
  cases e <;> simp only [exOf] at hq <;> first
    | exact hq.elim
    | (obtain ⟨ρ', hr', hd', hs', hq⟩ := hq)
  · obtain ⟨ρ1, Kn, Kx, hq1, h1, h2, h3, h4⟩ := hloop ρ' w'.heap hq
    replace hr' := hq1 _ hr'
    clear hq hq1
    have tail : ∀ a2 w2, Rel N ρ1 a2 → a2.defers = [{ target := .collected w'.heap.size, args := #[] }] → Same w w2 → Kn w2.heap ∨ Kx (.exit b) w2.heap → T.wpIn Fence.wide 0 P (bodyPostM Fence.wide 0 P fn (fun e w' => ∃ v, e = .returned v ∧ Same w w' ∧ R v w'.heap)) a2 w2 := by
      intro a2 w2 hr2 hd2 hs2 hk
      have k2 : cwp P N T (finQ (finM w'.heap.size F)) ρ1 w2.heap := cwp_mono (c := T) (h2 _ hk) fun e ρ h q => by cases e <;> exact q
      refine wpIn_mono (k2 none w w2 a2 hr2 hs2 rfl) fun e a3 w3 hq3 => ?_
      unfold lift at hq3
      cases e <;> simp only [exOf] at hq3 <;> first
        | exact hq3.elim
        | (obtain ⟨ρ3, hr3, hd3, hs3, hq3⟩ := hq3)
      · exact fin1 _ ρ3 a3 w3 hr3 (hd3.trans hd2) hs3 hq3
      · exact hq3.elim
      · exact fin1 _ ρ3 a3 w3 hr3 (hd3.trans hd2) hs3 hq3
    refine wpIn_block (wpIn_mono (h1 a' w' w hr' (hd'.trans hd) hs' rfl) fun e a2 w2 hq2 => ?_)
    obtain ⟨hr2, hd2, hs2, hq2⟩ := hq2
    cases e with
    | normal => exact tail a2 w2 hr2 hd2 hs2 (.inl hq2)
    | ret => exact fin1 _ ρ1 a2 w2 hr2 hd2 hs2 (h3 _ hq2)
    | exit i =>
      obtain rfl := h4 i _ hq2
      simp only [Exit.inBlock, if_true]
      exact tail a2 w2 hr2 hd2 hs2 (.inr hq2)
    | goto l => exact hq2.elim
    | panic c => exact hq2.elim
    | outgrown => exact hq2.elim
  · exact hq.elim
  · exact fin0 ρ' a' w' hr' (hd'.trans hd) hs' hq
end
def rQ (D l : Nat) (o : Obj) : Rs :=
  ⟨fun b => b = D ∨ b = l, fun _ _ h => D ≠ l ∧ h[D]? = some (.deferred (some [])) ∧ h[l]? = some o, fun _ _ k e => ⟨e.1, (k D (.inl rfl)).trans e.2.1, (k l (.inr rfl)).trans e.2.2⟩, fun _ e => e, true, fun _ _ _ _ _ e => e⟩
section
variable {E : En} {L L' : List Rs} {I I' : Gh} {h h' : Heap} {D l : Nat} {o o' : Obj}
theorem St.rq (hs : St E L I h) (o : Obj) (ho : UnO o) : St E (rQ h.size (h.size + 1) o :: L) I ((h.push (.deferred (some []))).push o) := by
  have p1 : Pst No I h I (h.push (.deferred (some []))) := post_push hs.bd _ trivial
  have p2 : Pst No I (h.push (.deferred (some []))) I ((h.push (.deferred (some []))).push o) := post_push p1.bd _ ho
  refine hs.new (p1.no p2) ⟨by omega, ?_, ?_⟩ ?_
  · rw [Array.getElem?_push, if_neg (by simp), Array.getElem?_push, if_pos rfl]
  · rw [Array.getElem?_push, if_pos (by simp)]
  · rintro b (rfl | rfl)
    · exact ⟨Nat.le_refl _, by simp; omega, fun x => absurd (hs.bd _ x) (by omega)⟩
    · exact ⟨by omega, by simp, fun x => absurd (hs.bd _ x) (by omega)⟩
theorem St.rqD (hs : St E L I h) (d : Del L (rQ D l o) L') : h[D]? = some (.deferred (some [])) ∧ h[l]? = some o := (hs.g d).2
theorem pst_set (hB : Bd I h) (o' : Obj) (ho : UnO o') : Pst (One l) I h I (h.setIfInBounds l o') where
  sub _ x := x
  new _ x := .inl x
  bd b x := by have := hB b x; simpa using this
  size := by simp
  keep b _ hM := by rw [Array.getElem?_setIfInBounds_ne (fun e => hM e.symm)]
  un b x o e := by
    by_cases hb : l = b
    · subst hb
      rw [Array.getElem?_setIfInBounds] at e
      split at e
      · split at e
        · obtain rfl := Option.some.inj e; exact ho
        · cases e
      · rename_i hn; exact absurd rfl hn
    · rw [Array.getElem?_setIfInBounds_ne hb] at e; exact un_refl b x o e
theorem St.rqs (hs : St E (rQ D l o :: L) I h) (o' : Obj) (ho : UnO o') : St E (rQ D l o' :: L) I (h.setIfInBounds l o') := by
  have g := hs.g d0
  refine hs.upd ((pst_set hs.bd o' ho).weaken (M' := (rQ D l o).F) fun b x => .inl (.inr x)) ⟨g.1, ?_, ?_⟩ fun b x => ⟨.inl x, ?_, (hs.sep.1.2.1 b x).2⟩
  · rw [Array.getElem?_setIfInBounds_ne (Ne.symm g.1)]; exact g.2.1
  · have : l < h.size := lt_of_some g.2.2
    simp [this]
  · simpa using (hs.sep.1.2.1 b x).1
theorem St.rqe (hs : St E (rQ D l o :: L) I h) : St E L I (h.setIfInBounds D (.deferred none)) := by
  refine (hs.upd (r' := emp) ((pst_set hs.bd (.deferred none) trivial).weaken (M' := (rQ D l o).F) fun b x => .inl (.inl x)) trivial fun b x => x.elim).drop
theorem St.rqg (hs : St E L I h) (g : Grown h h') : ∃ I', St E L I' h' :=
  ⟨I, hs.grow ⟨fun _ x => x, fun _ x => .inl x, fun b x => Nat.lt_of_lt_of_le (hs.bd b x) g.size, g.size, fun b hb _ => g.keep b hb, g.un⟩⟩
end
section
variable {P : Program} {N : Nat} {Q : Post} {ρ : Env} {h : Heap}
def F1 (N : Nat) (rs : List ResultVar) (R : Value → Heap → Prop) (ρ : Env) (h : Heap) : Prop := ∃ v, resE N ρ rs = some v ∧ R v h
def F2 (P : Program) (N : Nat) (rs : List ResultVar) (R : Value → Heap → Prop) (ρ : Env) (h : Heap) : Prop := ∃ vs, RVs P N ρ h rs vs ∧ R (tupV vs) h
theorem res_F1 {fn : Func} {rs : List ResultVar} {R : Value → Heap → Prop} (hrs : fn.results = rs.toArray) : ∀ ρ a w, Rel N ρ a → F1 N rs R ρ w.heap → ∃ v, (results fn a.tmps).run P w = .ok v w ∧ R v w.heap :=
  fun _ _ w hr ⟨v, hv, hR⟩ => ⟨v, results_of hrs hr hv w, hR⟩
theorem res_F2 {fn : Func} {rs : List ResultVar} {R : Value → Heap → Prop} (hrs : fn.results = rs.toArray) : ∀ ρ a w, Rel N ρ a → F2 P N rs R ρ w.heap → ∃ v, (results fn a.tmps).run P w = .ok v w ∧ R v w.heap := by
  rintro ρ a w hr ⟨vs, hv, hR⟩
  refine ⟨tupV vs, ?_, hR⟩
  have h1 := rvs_run hr rfl hv
  have hf : results fn a.tmps = (do
      let vs ← fn.results.mapM (resF a.tmps)
      pure (if h : vs.size = 1 then vs[0] else .tuple vs)) := by
    unfold results
    rfl
  rw [hf, hrs, List.mapM_toArray]
  simp only [map_eq_pure_bind, Sem.run_bind, h1, Result.andThen_ok, Sem.run_pure]
  congr 1
  match vs with
  | [] => rfl
  | [v] => rfl
  | _ :: _ :: _ => simp [tupV]
theorem k_end2 {F : Env → Heap → Prop} {J0 : Env → Heap → Prop} (q : J0 ρ h) : kwp P N (thenQ J0 (finQ F)) [] ρ h := q
theorem krF {F : Env → Heap → Prop} {J0 : Env → Heap → Prop} (q : F ρ h) : thenQ J0 (finQ F) .ret ρ h := q
theorem krM {F : Env → Heap → Prop} (q : F ρ h) : finQ F .ret ρ h := q
theorem k_fin2 {ρ' : Env} (q : Q .normal ρ' h) (e : ρ = ρ' := by kernel_rfl) : kwp P N Q [] ρ h := e ▸ q
def JL {α : Type} (E : En) (D : Nat) (X : List α → List Rs → Prop) (o : Obj) (pre : List α) (h' : Heap) : Prop := ∃ L I, X pre L ∧ St E (rQ D (D + 1) o :: L) I h'
def JY (E : En) (D : Nat) (Y : Code → List Rs → Prop) (o : Obj) (c : Code) (h' : Heap) : Prop := ∃ L I, Y c L ∧ St E (rQ D (D + 1) o :: L) I h'
theorem range_st {α : Type} {f : Operand} {p : Tmp} {assign body : Code} {g : FuncId} {lb : Array Value} {enc : α → Value} {xs : List α} {H0 : Heap → Prop} {E : En} {L0 : List Rs} {I0 : Gh} (hs0 : St E L0 I0 h)
    (X : List α → List Rs → Prop) (Y : Code → List Rs → Prop) (hX0 : X [] L0)
    (hf : ev N ρ f = .func (.func g) #[] lb) (eg : ∀ args w, (callFunc g args).run P w = .ok (.enter g args) w) (it : Iter P g lb (fun x => #[enc x]) xs H0)
    (hH : ∀ o pre L I h', X pre L → St E (rQ h.size (h.size + 1) o :: L) I h' → H0 h')
    (ρp : α → Env) (hassign : ∀ x (Q : Post) h', Q .normal (ρp x ++ ρ) h' → kwp P N Q [.c assign] ((p, enc x) :: ρ) h') (hp : Nat.blt p N = true)
    (hround : ∀ o pre x rest L I h', xs = pre ++ x :: rest → X pre L → St E (rQ h.size (h.size + 1) o :: L) I h' → kwp P N (rndQ (JL E h.size X o (pre ++ [x])) (JY E h.size Y o)) [.c body] (ρp x ++ ρ) h') :
    ∀ a w W, Rel N ρ a → a.defers = [] → Same W w → w.heap = h → (Code.rangeFunc f #[p] assign body).wpIn Fence.wide 0 P (rngQ N W ρ h.size (fun h' => ∃ o, JL E h.size X o xs h') (fun c h' => ∃ o, JY E h.size Y o c h')) a w := by
  intro a w W ra hd hs hh
  refine range_in ra hd hs hh hf eg it (fun _ => rfl) (JL E h.size X) (JY E h.size Y) (fun o pre h' ⟨L, I, x, s⟩ => hH o pre L I h' x s) ?_ ?_ (fun o pre h' ⟨L, I, x, s⟩ => (s.rqD d0).2) (fun o pre h' ⟨L, I, x, s⟩ => (s.rqD d0).2)
    (fun o o' pre h' ho ⟨L, I, x, s⟩ => ⟨L, I, x, s.rqs o' ho⟩) (fun o o' pre h' ho ⟨L, I, x, s⟩ => ⟨L, I, x, s.rqs o' ho⟩) (fun o ho => ⟨L0, I0, hX0, hs0.rq o ho⟩) (fun x => ρp x ++ ρ) ?_ ?_
  · rintro o pre h1 h2 ⟨L, I, x, s⟩ g
    obtain ⟨I', s'⟩ := s.rqg g
    exact ⟨L, I', x, s'⟩
  · rintro o pre h1 h2 ⟨L, I, x, s⟩ g
    obtain ⟨I', s'⟩ := s.rqg g
    exact ⟨L, I', x, s'⟩
  · intro x Q h' q
    refine ⟨(p, enc x) :: ρ, fun a' e => ?_, cwp_mono (c := assign) (hassign x Q h' q) fun e ρ h q => by cases e <;> exact q⟩
    have := ra.put (some p) (enc x)
    unfold put at this
    simp only [hp, cond_true] at this
    have e2 : a'.tmps = (a.put (some p) (enc x)).tmps := by rw [e]; simp [Act.put]
    exact ⟨by rw [e2]; exact this.size, fun t => by rw [e2]; exact this.get t⟩
  · rintro o pre x rest h' hx ⟨L, I, hX, s⟩
    exact cwp_mono (c := body) (hround o pre x rest L I h' hx hX s) fun e ρ h q => by cases e <;> exact q
def LoopW (P : Program) (N : Nat) (F : Env → Heap → Prop) (b : Nat) (f : Operand) (ps : Array Tmp) (assign body T : Code) (ρ : Env) (h1 : Heap) : Prop :=
  ∃ (ρ' : Env) (Kn : Heap → Prop) (Kx : Code → Heap → Prop), (∀ a, Rel N ρ a → Rel N ρ' a) ∧ (∀ a w W, Rel N ρ' a → a.defers = [] → Same W w → w.heap = h1 → (Code.rangeFunc f ps assign body).wpIn Fence.wide 0 P (rngQ N W ρ' h1.size Kn Kx) a w) ∧
      (∀ h2, Kn h2 ∨ Kx (.exit b) h2 → kwp P N (finQ (finM h1.size F)) [.c T] ρ' h2) ∧ (∀ h2, Kx .ret h2 → finM h1.size F ρ' h2) ∧ ∀ i h2, Kx (.exit i) h2 → i = b
theorem fn_rangeW {fid : FuncId} {fn : Func} {args : List Value} {R : Value → Heap → Prop} {F : Env → Heap → Prop} (pre : List Code) {rN : Code} {b : Nat} {f : Operand} {ps : Array Tmp} {assign body T : Code}
    (hf : P.funcs[fid]? = some fn) (hb : fn.body = some (pre.foldr Code.seq (.seq (.seq rN (.block b (.rangeFunc f ps assign body))) T))) (hn : fn.ntmps = N) (hN : Nat.ble args.length N = true)
    (hres : ∀ ρ a w, Rel N ρ a → F ρ w.heap → ∃ v, (results fn a.tmps).run P w = .ok v w ∧ R v w.heap)
    (hpre : kwp P N (thenQ (LoopW P N F b f ps assign body T) (finQ F)) ((pre ++ [rN]).map Kn.c) (argEnv 0 args) h) : Ret P fid args.toArray h R :=
  fn_range pre hf hb hn hN hres _ hpre fun _ _ q => q
theorem fn_rangeW1 {fid : FuncId} {fn : Func} {args : List Value} {rs : List ResultVar} {R : Value → Heap → Prop} (pre : List Code) {rN : Code} {b : Nat} {f : Operand} {ps : Array Tmp} {assign body T : Code}
    (hf : P.funcs[fid]? = some fn) (hb : fn.body = some (pre.foldr Code.seq (.seq (.seq rN (.block b (.rangeFunc f ps assign body))) T))) (hn : fn.ntmps = N) (hrs : fn.results = rs.toArray) (hN : Nat.ble args.length N = true)
    (hpre : kwp P N (thenQ (LoopW P N (F1 N rs R) b f ps assign body T) (finQ (F1 N rs R))) ((pre ++ [rN]).map Kn.c) (argEnv 0 args) h) : Ret P fid args.toArray h R := fn_rangeW pre hf hb hn hN (res_F1 hrs) hpre
theorem fn_rangeW2 {fid : FuncId} {fn : Func} {args : List Value} {rs : List ResultVar} {R : Value → Heap → Prop} (pre : List Code) {rN : Code} {b : Nat} {f : Operand} {ps : Array Tmp} {assign body T : Code}
    (hf : P.funcs[fid]? = some fn) (hb : fn.body = some (pre.foldr Code.seq (.seq (.seq rN (.block b (.rangeFunc f ps assign body))) T))) (hn : fn.ntmps = N) (hrs : fn.results = rs.toArray) (hN : Nat.ble args.length N = true)
    (hpre : kwp P N (thenQ (LoopW P N (F2 P N rs R) b f ps assign body T) (finQ (F2 P N rs R))) ((pre ++ [rN]).map Kn.c) (argEnv 0 args) h) : Ret P fid args.toArray h R := fn_rangeW pre hf hb hn hN (res_F2 hrs) hpre
def mkY (Yr : List Rs → Prop) (Yx : Nat → List Rs → Prop) : Code → List Rs → Prop
  | .ret, L => Yr L
  | .exit i, L => Yx i L
  | _, _ => False
theorem k_loopW {F : Env → Heap → Prop} {b : Nat} {f : Operand} {ps : Array Tmp} {assign body T : Code} {α : Type} {E : En} {X : List α → List Rs → Prop} {Yr : List Rs → Prop} {Yx : Nat → List Rs → Prop} {xs : List α}
    (hl : ∀ a w W, Rel N ρ a → a.defers = [] → Same W w → w.heap = h → (Code.rangeFunc f ps assign body).wpIn Fence.wide 0 P (rngQ N W ρ h.size (fun h' => ∃ o, JL E h.size X o xs h') (fun c h' => ∃ o, JY E h.size (mkY Yr Yx) o c h')) a w)
    (hT : ∀ h2, ((∃ o L I, X xs L ∧ St E (rQ h.size (h.size + 1) o :: L) I h2) ∨ (∃ o L I, Yx b L ∧ St E (rQ h.size (h.size + 1) o :: L) I h2)) → kwp P N (finQ (finM h.size F)) [.c T] ρ h2)
    (hR : ∀ h2, (∃ o L I, Yr L ∧ St E (rQ h.size (h.size + 1) o :: L) I h2) → finM h.size F ρ h2) (hX : ∀ i L, Yx i L → i = b) : kwp P N (thenQ (LoopW P N F b f ps assign body T) (finQ F)) [] ρ h := by
  refine k_end2 ⟨ρ, _, _, fun _ r => r, hl, ?_, ?_, ?_⟩
  · rintro h2 (⟨o, L, I, x, s⟩ | ⟨o, L, I, x, s⟩)
    · exact hT h2 (.inl ⟨o, L, I, x, s⟩)
    · exact hT h2 (.inr ⟨o, L, I, x, s⟩)
  · rintro h2 ⟨o, L, I, x, s⟩; exact hR h2 ⟨o, L, I, x, s⟩
  · rintro i h2 ⟨o, L, I, x, s⟩; exact hX i L x
theorem w64_sm {n : Int} (h1 : -9223372036854775808 ≤ n) (h2 : n ≤ 9223372036854775807) : w64 n = n := by
  unfold w64 IntKind.wrap
  simp [IntKind.signed, IntKind.bits]
  omega
end
end Go.Proofs.YtjkbhpokboolpaaGreatDoor.Sx
