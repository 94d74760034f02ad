import Derived.Test.YtjkbhpokboolpaaGreatDoorV7
namespace Go.Proofs.YtjkbhpokboolpaaGreatDoor.Sx
open Go
def rX {α : Type} (T : Ty α) (J : Gh) (a : Option Addr) (c n : Nat) (l : List α) : Rs :=
  ⟨Or2 (InA a) J, fun _ _ h => ((Sl T J h a c l ∧ OwS T h a c) ∧ l.length = n) ∧ (∀ b, J b → UnF h b) ∧ ∀ b, InA a b → ¬ J b,
    fun _ _ hF e => ⟨⟨⟨e.1.1.1.up ⟨fun _ x => x, fun b x => hF b (.inr x)⟩ (fun ad q _ => hF _ (.inl ⟨ad, q, rfl⟩)), ⟨fun ad q => by
      obtain ⟨h0, cc, t, h1, h2⟩ := e.1.1.2.ow ad q
      exact ⟨h0, cc, t, (hF _ (.inl ⟨ad, q, rfl⟩)).trans h1, h2⟩⟩⟩, e.1.2⟩, fun b x o q => e.2.1 b x o (by rw [← hF b (.inr x)]; exact q), e.2.2⟩,
    fun _ e => e, true, fun _ _ _ _ _ e => e⟩
inductive AllB : List Rs → Prop where
  | n : AllB []
  | r {α : Type} {T : Ty α} {a : Option Addr} {c n : Nat} {l : List α} {L : List Rs} : AllB L → AllB (rR T .b a c n l :: L)
  | e {v : Value} {x : GoErr} {L : List Rs} : AllB L → AllB (rE .b v x :: L)
  | l {b : Nat} {cs : List Value} {t : TypeId} {L : List Rs} : AllB L → AllB (rL b cs t :: L)
theorem AllB.no {I B X : Gh} {h : Heap} {L : List Rs} (a : AllB L) : Sep (Or2 (Or2 I B) X) I h L → Sep (Or2 (Or2 I B) X) No h L := by
  have up : ∀ b, Cl.G .b (Or2 (Or2 I B) X) I b → Cl.G .b (Or2 (Or2 I B) X) No b := fun b x => .inr (x.elim (fun y => .inl (.inl y)) id)
  induction a with
  | n => exact fun _ => trivial
  | r _ ih => exact fun s => ⟨⟨⟨s.1.1.1.mono up, s.1.1.2⟩, fun _ x => x.elim, fun _ x => x.elim⟩, ih s.2⟩
  | e _ ih => exact fun s => ⟨⟨ErrV.up (up_sub up) s.1.1, fun _ x => x.elim, fun _ x => x.elim⟩, ih s.2⟩
  | l _ ih => exact fun s => ⟨⟨⟨s.1.1.1, s.1.1.2.elim (fun x => .inr (.inl (.inl x))) .inr⟩, fun _ x => x.elim, fun _ x => x.elim⟩, ih s.2⟩
section
variable {α : Type} {T : Ty α} {E : En} {L L' facts : List Rs} {I J : Gh} {h : Heap} {a : Option Addr} {c n : Nat} {l : List α}
theorem St.callN (hs : St E L I h) (q : Br L facts) (ab : AllB facts) : St (en facts (Or2 (Or2 I E.B) (SF L)) No h) facts No h ∧
    ∀ {T : Ty α} {a : Option Addr} {c n : Nat} {l : List α} {L1 : List Rs} {I' : Gh} {h' : Heap}, St (en facts (Or2 (Or2 I E.B) (SF L)) No h) (rO T .i a c n l :: L1) I' h' → ∃ J, St E (rX T J a c n l :: L) I h' := by
  have hfn := q.nof
  constructor
  · exact ⟨Pst.refl (fun _ x => x.elim), fun b x => x.elim (fun y => y.elim (hs.bd b) (hs.bdB b)) (fun y => (hs.sep.lt b y).1), fun b x => absurd x (hfn b), ab.no (q.sep hs.sep), fun b x => absurd x (hfn b)⟩
  · intro T a c n l L1 I' h' hs'
    have p := hs'.pst
    have new : ∀ b, I' b → h.size ≤ b := fun b x => (p.new b x).elim (fun y => y.elim) (fun y => y.elim (fun z => absurd z (hfn b)) id)
    have newA : ∀ b, InA a b → h.size ≤ b := fun b x => (hs'.nw b (.inl x)).elim (fun z => absurd z (hfn b)) id
    have g := hs'.g d0
    refine ⟨I', hs.new ⟨fun _ x => x, fun _ x => .inl x, hs.bd.mono p.size, p.size, fun b hb _ => p.keep b hb (fun z => hfn b z), p.un⟩ ⟨g, fun b x => p.un b (fun hb => absurd hb (Nat.not_lt_of_le (new b x))), fun b x => (hs'.sep.1.2.1 b x).2⟩ ?_⟩
    rintro b (x | x)
    · exact ⟨newA b x, (hs'.sep.1.2.1 b x).1, fun y => absurd (hs.bd b y) (Nat.not_lt_of_le (newA b x))⟩
    · exact ⟨new b x, p.bd b x, fun y => absurd (hs.bd b y) (Nat.not_lt_of_le (new b x))⟩
theorem St.sX (hs : St E L I h) (d : Del L (rX T J a c n l) L') : Sn T J h a c n l := ⟨(hs.g d).1.1.1, (hs.g d).1.2⟩
theorem St.nX (hs : St E L I h) (d : Del L (rX T J a c n l) L') : n = l.length := (hs.g d).1.2.symm
end
def rP {α : Type} (T : Ty α) (a : Option Addr) (c n : Nat) (l : List α) : Rs :=
  ⟨No, fun B I h => (Sl T I h a c l ∧ ∀ ad, a = some ad → 0 < c → Or2 I B ad.block) ∧ l.length = n,
    fun u hB _ e => ⟨⟨e.1.1.up u (fun ad q z => (e.1.2 ad q z).elim (u.keep _) (hB _)), fun ad q z => (e.1.2 ad q z).imp (u.sub _) id⟩, e.2⟩,
    fun hB e => ⟨⟨e.1.1, fun ad q z => (e.1.2 ad q z).elim .inl (hB _)⟩, e.2⟩, false, fun e => by cases e⟩
section
variable {α : Type} {T : Ty α} {E : En} {L L' R R' : List Rs} {I : Gh} {h : Heap} {a : Option Addr} {c n : Nat} {l : List α}
theorem St.sP (hs : St E L I h) (d : Del L (rP T a c n l) L') : Sn T (Cl.i.G E.B I) h a c n l := ⟨(hs.g d).1.1, (hs.g d).2⟩
theorem St.nP (hs : St E L I h) (d : Del L (rP T a c n l) L') : n = l.length := (hs.g d).2.symm
theorem qMI (d : Del R (rR T .i a c n l) R') : Br1 R (rP T a c n l) := ⟨noF, fun s => ⟨⟨(d.sep s).1.1.1.toSl, fun ad e z => .inl ((d.sep s).1.1.1.im ad e z)⟩, (d.sep s).1.1.2⟩⟩
theorem qMM (d : Del R (rP T a c n l) R') : Br1 R (rP T a c n l) := ⟨noF, fun s => ⟨⟨(d.sep s).1.1.1.1, fun ad e z => ((d.sep s).1.1.1.2 ad e z).elim .inl (fun y => .inr (.inl (.inr y)))⟩, (d.sep s).1.1.2⟩⟩
theorem qMO (d : Del R (rO T .i a c n l) R') : Br1 R (rP T a c n l) := ⟨noF, fun s => ⟨⟨(d.sep s).1.1.1.1, fun ad e _ => .inr (.inr ((d.sf _).2 (.inl ⟨ad, e, rfl⟩)))⟩, (d.sep s).1.1.2⟩⟩
end
structure Chg (h h' : Heap) (b o : Nat) : Prop where
  size : h'.size = h.size
  other : ∀ d, d ≠ b → h'[d]? = h[d]?
  cell : ∃ (c : Array Value) (t : TypeId) (fr : Nat × Nat) (v : Int), o < c.size ∧ h[b]? = some (.cells c t fr) ∧ h'[b]? = some (.cells (c.setIfInBounds o (.int .u8 v)) t fr)
def ShL {α : Type} (R : α → α → Prop) (l l' : List α) : Prop := l.length = l'.length ∧ ∀ i (h1 : i < l.length) (h2 : i < l'.length), R l[i] l'[i]
def Shp {α : Type} (T : Ty α) (R : α → α → Prop) : Prop := ∀ {J : Gh} {h h' : Heap} {b o : Nat} {cs : List Value} {x : α}, Chg h h' b o → T.rep J h cs x → ∃ x', T.rep J h' cs x' ∧ R x' x
theorem seg_one {c : Array Value} {i : Nat} (h : i < c.size) : seg c i 1 = [c[i]] := by
  unfold seg
  rw [List.drop_eq_getElem_cons (by simpa using h)]
  simp
theorem rd_u8 {J : Gh} {h h' : Heap} {b o : Nat} {a : Option Addr} {c : Nat} {l : List Int} (g : Chg h h' b o) (r : Rd (tInt .u8) J h a c l) : ∃ l', Rd (tInt .u8) J h' a c l' ∧ l'.length = l.length := by
  cases a with
  | none => obtain ⟨rfl, rfl⟩ := r.nil rfl; exact ⟨[], rd_nil _ _ _, rfl⟩
  | some ad =>
    rcases Nat.eq_zero_or_pos c with h0 | h0
    · subst h0
      obtain rfl : l = [] := List.eq_nil_of_length_eq_zero (Nat.le_zero.1 r.le)
      exact ⟨[], ⟨⟨(fun e => by cases e), Nat.le_refl _, fun _ _ x => absurd x (Nat.lt_irrefl _)⟩, fun _ _ x => absurd x (Nat.lt_irrefl _)⟩, rfl⟩
    · obtain ⟨s1, cc, t, fr, s2, s3, s4⟩ := r.some_ ad rfl h0
      by_cases hb : ad.block = b
      · obtain ⟨c2, t2, fr2, v, g0, g1, g2⟩ := g.cell
        rw [hb, g1] at s2
        injection Option.some.inj s2 with e1 e2 e3
        subst e1 e2 e3
        refine ⟨(List.range l.length).map (fun i => if ad.off + i = o then v else l.getD i 0), ⟨⟨(fun e => by cases e), by simpa using r.le, fun ad' e _ => ?_⟩, fun ad' e x => r.im ad' e x⟩, by simp⟩
        obtain rfl := Option.some.inj e
        have hle := r.le
        simp only [tInt, Nat.mul_one] at s3 s4
        refine ⟨s1, _, _, _, by rw [hb]; exact g2, by simpa [tInt] using s3, fun i hi => ?_⟩
        simp only [List.length_map, List.length_range] at hi
        have hic : ad.off + i < c2.size := by omega
        have h4 := s4 i hi
        show seg _ (ad.off + i * 1) 1 = [_]
        rw [Nat.mul_one, seg_one (by simpa using hic)]
        rw [seg_one hic] at h4
        simp only [List.cons.injEq, and_true] at h4
        rw [Array.getElem_setIfInBounds (hj := by simpa using hic)]
        simp only [List.getElem_map, List.getElem_range]
        by_cases e2 : ad.off + i = o
        · rw [if_pos e2, if_pos e2.symm]
        · rw [if_neg e2, if_neg (fun x => e2 x.symm), h4, List.getD_eq_getElem?_getD, List.getElem?_eq_getElem hi]; rfl
      · refine ⟨l, ⟨⟨r.nil, r.le, fun ad' e _ => ?_⟩, r.im⟩, rfl⟩
        obtain rfl := Option.some.inj e
        exact ⟨s1, cc, t, fr, (g.other _ hb).trans s2, s3, s4⟩
theorem shp_sl : Shp (tSl (tInt .u8)) (fun x y => x.length = y.length) := by
  rintro J h h' b o cs x g ⟨a, n, c, rfl, r, e⟩
  obtain ⟨l', r', e'⟩ := rd_u8 g r
  exact ⟨l', ⟨a, n, c, rfl, r', e'.trans e⟩, e'⟩
theorem sl_chg {α : Type} {T : Ty α} {R : α → α → Prop} (hT : Shp T R) {J : Gh} {h h' : Heap} {b o : Nat} {a : Option Addr} {c : Nat} {l : List α} (g : Chg h h' b o) (hb : ¬ InA a b) (s : Sl T J h a c l) : ∃ l', Sl T J h' a c l' ∧ ShL R l' l := by
  cases a with
  | none => obtain ⟨rfl, rfl⟩ := s.nil rfl; exact ⟨[], (rd_nil _ _ _).toSl, rfl, fun i h1 => by cases h1⟩
  | some ad =>
    rcases Nat.eq_zero_or_pos c with h0 | h0
    · subst h0
      obtain rfl : l = [] := List.eq_nil_of_length_eq_zero (Nat.le_zero.1 s.le)
      exact ⟨[], ⟨(fun e => by cases e), Nat.le_refl _, fun _ _ x => absurd x (Nat.lt_irrefl _)⟩, rfl, fun i h1 => by cases h1⟩
    · obtain ⟨s1, cc, t, fr, s2, s3, s4⟩ := s.some_ ad rfl h0
      have build : ∀ m, m ≤ l.length → ∃ l' : List α, l'.length = m ∧ ∀ i (h1 : i < l'.length) (h2 : i < l.length), T.rep J h' (seg cc (ad.off + i * T.size) T.size) l'[i] ∧ R l'[i] l[i] := by
        intro m
        induction m with
        | zero => intro _; exact ⟨[], rfl, fun i h1 => by cases h1⟩
        | succ m ih =>
          intro hm
          obtain ⟨l', e1, e2⟩ := ih (by omega)
          obtain ⟨x, r1, r2⟩ := hT g (s4 m (by omega))
          refine ⟨l' ++ [x], by simp [e1], fun i h1 h2 => ?_⟩
          by_cases hi : i < l'.length
          · rw [List.getElem_append_left hi]; exact e2 i hi h2
          · have : i = m := by simp at h1; omega
            subst this
            rw [List.getElem_append_right (by omega)]
            simp only [e1, Nat.sub_self, List.getElem_cons_zero]
            exact ⟨r1, r2⟩
      obtain ⟨l', e1, e2⟩ := build l.length (Nat.le_refl _)
      refine ⟨l', ⟨(fun e => by cases e), by rw [e1]; exact s.le, fun ad' e _ => ?_⟩, e1, fun i h1 h2 => (e2 i h1 h2).2⟩
      obtain rfl := Option.some.inj e
      exact ⟨s1, cc, t, fr, (g.other _ (fun x => hb ⟨ad, rfl, x⟩)).trans s2, s3, fun i hi => (e2 i hi (by rw [← e1]; exact hi)).1⟩
theorem ShL.refl {α : Type} {R : α → α → Prop} (hR : ∀ x, R x x) (l : List α) : ShL R l l := ⟨rfl, fun _ _ _ => hR _⟩
theorem ShL.trans {α : Type} {R : α → α → Prop} (hR : ∀ {x y z}, R x y → R y z → R x z) {a b c : List α} (x : ShL R a b) (y : ShL R b c) : ShL R a c :=
  ⟨x.1.trans y.1, fun i h1 h2 => hR (x.2 i h1 (by rw [← x.1]; exact h1)) (y.2 i (by rw [← x.1]; exact h1) h2)⟩
theorem ShL.at_ {α : Type} [Inhabited α] {R : α → α → Prop} {a b : List α} (x : ShL R a b) {i : Int} (h0 : 0 ≤ i) (h1 : i < (a.length : Int)) : R (Sx.at_ a i) (Sx.at_ b i) := by
  have e := x.1
  have ha : i.toNat < a.length := by omega
  have hb : i.toNat < b.length := by omega
  rw [at_eq (hi := ha), at_eq (hi := hb)]
  exact x.2 _ ha hb
theorem lt_eq {a b : Nat} {i : Int} (e : a = b) (h : i < (b : Int)) : i < (a : Int) := by rw [e]; exact h
section
variable {P : Program} {N : Nat} {ρ : Env} {h : Heap} {K : Env → Heap → Prop}
variable {dst : Option Tmp} {ty : TypeId} {pos : String} {aft : Array Edge} {g : Option (Nat × Bool)}
theorem run_store1F {t : TypeId} {x vx : Operand} {b off : Nat} {c : Array Value} {T : TypeId} {fr : Nat × Nat} {v : Value} {w : World} (hx : ev N ρ x = .pointer (some ⟨b, off, none⟩)) (hv : ev N ρ vx = v)
    (hone : v.oneCell' = true) (hm : pureRun P (sizeOf t) = some 1) (hb : w.heap[b]? = some (.cells c T fr)) (hoff : off < c.size) (hfr : ¬ (fr.1 ≤ off ∧ off < fr.2)) :
    (execOp (ev N ρ) ⟨dst, .store t x vx, ty, pos, aft, g⟩).run P w = .ok .skip (w.setRow b (c.setIfInBounds off v)) := by
  have h3 := pureRun_run hm w
  have hcs : v.cells = #[v] := by cases v <;> first | rfl | (cases hone; done)
  have hst : (storeCells ⟨b, off, none⟩ [v] 0).run P w = .ok () (w.setRow b (c.setIfInBounds off v)) := by
    have hadd : (⟨b, off, none⟩ : Addr).add 0 = ⟨b, off, none⟩ := by rw [Addr.add_lit]; rfl
    have hcell : w.cell? ⟨b, off, none⟩ = some c[off] := by simp [World.cell?, hb, hoff]
    have hfro : w.frozen? ⟨b, off, none⟩ = false := by simp [World.frozen?, hb]; omega
    have h1 : (store (⟨b, off, none⟩ : Addr) v).run P w = .ok () (w.setRow b (c.setIfInBounds off v)) := by
      rw [run_store P w _ v _ hone, hcell]
      simp [hfro, setCell_eq_setRow w b off c T fr v hb]
    simp only [storeCells, Nat.zero_add]
    rw [hadd]
    simp [h1]
  simp only [execOp, Instr.storeAt, storeVar, Instr.sureAddr, hx, hv]
  simp [h3, hcs, hst]
theorem a_known {P : Program} {N : Nat} {ops : Array Oper} {Q : Post} {S : Heap → Prop} {Lm fuel : Nat} {listed : Array Bool} {ρ : Env} {h : Heap} {d : Option Tmp} {b c : Bool} (e : b = c) (q : awp P N ops Q S Lm fuel listed (put N ρ d (.bool c)) h) : awp P N ops Q S Lm fuel listed (put N ρ d (.bool b)) h := e ▸ q
def mx (x y : Int) : Int := if y > x then y else x
def mn (x y : Int) : Int := if y < x then y else x
def mcase {α β : Type} (o : Option α) (n : Option β) (f : α → Option β) : Option β :=
  match o with
  | none => n
  | some y => f y
theorem mc_n {α β : Type} {o : Option α} {n : Option β} {f : α → Option β} {r : β} (e : o = none) (H : mcase o n f = some r) : n = some r := by subst e; exact H
theorem mc_s {α β : Type} {o : Option α} {n : Option β} {f : α → Option β} {r : β} {y : α} (e : o = some y) (H : mcase o n f = some r) : f y = some r := by subst e; exact H
theorem sX {α : Type} {T : Ty α} {R : α → α → Prop} (hT : Shp T R) {E : En} {L : List Rs} {I J : Gh} {a a' : Option Addr} {c n c' : Nat} {l : List α} {l' : List Int} {t : TypeId} {x vx : Operand} {k : Int} (v : Int)
    (hs : St E (rX T J a c n l :: L) I h) (r : Rd (tInt .u8) J h a' c' l') (h0 : 0 ≤ k) (h1 : k < (l'.length : Int))
    (q : ∀ h' l2, St E (rX T J a c n l2 :: L) I h' → ShL R l2 l → K (put N ρ dst undef) h')
    (hx : ev N ρ x = elemPtr a' (k.toNat * 1) := by kernel_rfl) (hv : ev N ρ vx = .int .u8 v := by kernel_rfl) (hm : pureRun P (sizeOf t) = some 1 := by kernel_rfl) :
    owp P N ⟨dst, .store t x vx, ty, pos, aft, g⟩ ρ h K := by
  intro w ac ha hh K' hK
  subst hh
  obtain ⟨b, o, cc, tt, fr, rfl, hb, hle, _⟩ := r.toSl.elem h0 h1
  have hJ : J b := by
    have := r.im _ rfl (Nat.lt_of_lt_of_le (by omega : 0 < l'.length) r.le)
    exact this
  simp only [tInt, Nat.mul_one] at hle
  have g0 := hs.g d0
  have hun := g0.2.1 b hJ _ hb (o + k.toNat) (by omega)
  have hr := run_store1F (P := P) (dst := dst) (ty := ty) (pos := pos) (aft := aft) (g := g) (x := x) (b := b) (off := o + k.toNat) (by rw [hx]; simp [elemPtr]) hv rfl hm hb (by omega) hun
  unfold xwp
  rw [ha.eval, hr]
  have hb' := heap_setRow (c' := cc.setIfInBounds (o + k.toNat) (.int .u8 v)) hb
  have hoth : ∀ d, d ≠ b → (w.setRow b (cc.setIfInBounds (o + k.toNat) (.int .u8 v))).heap[d]? = w.heap[d]? := fun d hd => setRow_other _ _ _ _ hd
  have hsz : (w.setRow b (cc.setIfInBounds (o + k.toNat) (.int .u8 v))).heap.size = w.heap.size := by simp [World.setRow]
  have hc : Chg w.heap (w.setRow b (cc.setIfInBounds (o + k.toNat) (.int .u8 v))).heap b (o + k.toNat) := ⟨hsz, hoth, cc, tt, fr, v, by omega, hb, hb'⟩
  have hab : ¬ InA a b := fun y => g0.2.2 b y hJ
  obtain ⟨l2, s2, e2⟩ := sl_chg hT hc hab g0.1.1.1
  refine hK _ _ _ (ha.put _ _) (put_defers _ _ _) (same_setRow _ _ _) (q _ l2 ?_ e2)
  have hU : ∀ (o' : Obj), (w.setRow b (cc.setIfInBounds (o + k.toNat) (.int .u8 v))).heap[b]? = some o' → UnO o' := fun o' e => by
    rw [hb'] at e
    obtain rfl := Option.some.inj e
    intro i hi
    exact g0.2.1 b hJ _ hb i (by simpa using hi)
  refine hs.upd ⟨fun _ y => y, fun _ y => .inl y, fun d y => by rw [hsz]; exact hs.bd d y, Nat.le_of_eq hsz.symm, fun d _ y => hoth d fun z => y (by subst z; exact .inr hJ), fun d y o' e => ?_⟩ ⟨⟨⟨s2, ⟨fun ad e => ?_⟩⟩, by rw [e2.1]; exact g0.1.2⟩, fun d y o' e => ?_, g0.2.2⟩ (fun d y => ⟨.inl y, by rw [hsz]; exact hs.sep.1.2.1 d y⟩)
  · by_cases hd : d = b
    · subst hd; exact hU o' e
    · rw [hoth d hd] at e; exact un_refl d y o' e
  · obtain ⟨h2, cc2, t2, h3, h4⟩ := g0.1.1.2.ow ad e
    exact ⟨h2, cc2, t2, (hoth _ (fun z => hab ⟨ad, e, z⟩)).trans h3, h4⟩
  · by_cases hd : d = b
    · subst hd; exact hU o' e
    · rw [hoth d hd] at e; exact g0.2.1 d y o' e
end
end Go.Proofs.YtjkbhpokboolpaaGreatDoor.Sx
