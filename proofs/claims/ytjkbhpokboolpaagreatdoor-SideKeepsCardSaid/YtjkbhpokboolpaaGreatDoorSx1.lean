import Derived.Test.YtjkbhpokboolpaaGreatDoorSx0
import Derived.Laws.AppendOwn
import Derived.Laws.MakeOwn
import Derived.Laws.CopyRow
namespace Go.Proofs.YtjkbhpokboolpaaGreatDoor.Sx
open Go
abbrev Gh := Nat → Prop
def No : Gh := fun _ => False
def One (c : Nat) : Gh := fun b => b = c
def InA (a : Option Addr) : Gh := fun b => ∃ ad, a = some ad ∧ ad.block = b
def Bd (I : Gh) (h : Heap) : Prop := ∀ b, I b → b < h.size
def UnO : Obj → Prop
  | .cells c _ fr => ∀ i, i < c.size → ¬ (fr.1 ≤ i ∧ i < fr.2)
  | _ => True
def UnF (h : Heap) (b : Nat) : Prop := ∀ o, h[b]? = some o → UnO o
structure Pst (M : Gh) (I : Gh) (h : Heap) (I' : Gh) (h' : Heap) : Prop where
  sub : ∀ b, I b → I' b
  new : ∀ b, I' b → I b ∨ M b ∨ h.size ≤ b
  bd : Bd I' h'
  size : h.size ≤ h'.size
  keep : ∀ b, b < h.size → ¬ M b → h'[b]? = h[b]?
  un : ∀ b, (b < h.size → UnF h b) → UnF h' b
theorem un_refl {h : Heap} (b : Nat) (x : b < h.size → UnF h b) : UnF h b := fun o e => x (Array.getElem?_eq_some_iff.1 e).1 o e
theorem Pst.refl {M I : Gh} {h : Heap} (hB : Bd I h) : Pst M I h I h := ⟨fun _ x => x, fun _ x => .inl x, hB, Nat.le_refl _, fun _ _ _ => rfl, un_refl⟩
theorem Pst.trans {M M1 M2 I I1 I2 : Gh} {h h1 h2 : Heap} (p : Pst M1 I h I1 h1) (q : Pst M2 I1 h1 I2 h2)
    (c1 : ∀ b, M1 b → M b ∨ h.size ≤ b) (c2 : ∀ b, M2 b → M b ∨ h.size ≤ b) : Pst M I h I2 h2 where
  sub b x := q.sub b (p.sub b x)
  new b x := by
    rcases q.new b x with x | x | x
    · rcases p.new b x with x | x | x
      · exact .inl x
      · exact .inr (c1 b x)
      · exact .inr (.inr x)
    · exact .inr (c2 b x)
    · exact .inr (.inr (Nat.le_trans p.size x))
  bd := q.bd
  size := Nat.le_trans p.size q.size
  keep b hb hM := by
    have h1' : ¬ M1 b := fun x => (c1 b x).elim hM (by omega)
    have h2' : ¬ M2 b := fun x => (c2 b x).elim hM (by omega)
    rw [q.keep b (Nat.lt_of_lt_of_le hb p.size) h2', p.keep b hb h1']
  un b x := q.un b (fun _ => p.un b x)
theorem Pst.no {M I I1 I2 : Gh} {h h1 h2 : Heap} (p : Pst M I h I1 h1) (q : Pst No I1 h1 I2 h2) : Pst M I h I2 h2 :=
  p.trans q (fun _ x => .inl x) (fun _ x => x.elim)
theorem Pst.own {M I I1 I2 M2 : Gh} {h h1 h2 : Heap} (p : Pst M I h I1 h1) (q : Pst M2 I1 h1 I2 h2) (hc : ∀ b, M2 b → M b ∨ h.size ≤ b) : Pst M I h I2 h2 :=
  p.trans q (fun _ x => .inl x) hc
theorem Pst.weaken {M M' I I1 : Gh} {h h1 : Heap} (p : Pst M I h I1 h1) (hm : ∀ b, M b → M' b ∨ h.size ≤ b) : Pst M' I h I1 h1 :=
  p.trans (Pst.refl (M := No) p.bd) hm (fun _ x => x.elim)
structure Up (I : Gh) (h : Heap) (I' : Gh) (h' : Heap) : Prop where
  sub : ∀ b, I b → I' b
  keep : ∀ b, I b → h'[b]? = h[b]?
theorem Pst.up {M I I' : Gh} {h h' : Heap} (p : Pst M I h I' h') (hB : Bd I h) (hd : ∀ b, M b → ¬ I b) : Up I h I' h' :=
  ⟨p.sub, fun b hb => p.keep b (hB b hb) (fun hm => hd b hm hb)⟩
structure OwnB (I : Gh) (h : Heap) (b : Nat) (cs : List Value) (T : TypeId) : Prop where
  at_ : h[b]? = some (.cells cs.toArray T (0, 0))
  no : ¬ I b
theorem lt_of_some {h : Heap} {b : Nat} {o : Obj} (e : h[b]? = some o) : b < h.size := (Array.getElem?_eq_some_iff.1 e).1
theorem OwnB.lt {I : Gh} {h : Heap} {b : Nat} {cs : List Value} {T : TypeId} (o : OwnB I h b cs T) : b < h.size := lt_of_some o.at_
theorem Pst.notIn {M I I' : Gh} {h h' : Heap} (p : Pst M I h I' h') {b : Nat} (hn : ¬ I b) (hm : ¬ M b) (hb : b < h.size) : ¬ I' b :=
  fun x => by rcases p.new b x with x | x | x; exact hn x; exact hm x; omega
theorem OwnB.post {M I I' : Gh} {h h' : Heap} {b : Nat} {cs : List Value} {T : TypeId} (o : OwnB I h b cs T) (p : Pst M I h I' h') (hm : ¬ M b) : OwnB I' h' b cs T :=
  ⟨(p.keep b o.lt hm).trans o.at_, p.notIn o.no hm o.lt⟩
theorem post_push {I : Gh} {h : Heap} (hB : Bd I h) (o : Obj) (ho : UnO o := by first | exact trivial | exact fun _ _ x => Nat.not_lt_zero _ x.2) : Pst No I h I (h.push o) where
  sub _ x := x
  new _ x := .inl x
  bd b x := by have := hB b x; simp; omega
  size := by simp
  keep b hb _ := by rw [Array.getElem?_push, if_neg (by omega)]
  un b x o' e := by
    rw [Array.getElem?_push] at e
    split at e
    · obtain rfl := Option.some.inj e; exact ho
    · exact un_refl b x o' e
theorem own_push {I : Gh} {h : Heap} (hB : Bd I h) (cs : List Value) (T : TypeId) : OwnB I (h.push (.cells cs.toArray T)) h.size cs T :=
  ⟨by simp, fun x => absurd (hB _ x) (by omega)⟩
def seg (c : Array Value) (o n : Nat) : List Value := (c.toList.drop o).take n
structure Ty (α : Type) where
  size : Nat
  rep : Gh → Heap → List Value → α → Prop
  len : ∀ {I h cs x}, rep I h cs x → cs.length = size
  one : ∀ {I h cs x}, rep I h cs x → ∀ v ∈ cs, v.oneCell' = true
  up : ∀ {I h I' h' cs x}, Up I h I' h' → rep I h cs x → rep I' h' cs x
structure Sl {α : Type} (T : Ty α) (I : Gh) (h : Heap) (a : Option Addr) (cap : Nat) (l : List α) : Prop where
  nil : a = none → l = [] ∧ cap = 0
  le : l.length ≤ cap
  some_ : ∀ ad, a = some ad → 0 < cap → ad.spot = none ∧ ∃ c t fr, h[ad.block]? = some (.cells c t fr) ∧ ad.off + cap * T.size ≤ c.size ∧
    ∀ i (hi : i < l.length), T.rep I h (seg c (ad.off + i * T.size) T.size) l[i]
structure Rd {α : Type} (T : Ty α) (I : Gh) (h : Heap) (a : Option Addr) (cap : Nat) (l : List α) : Prop extends Sl T I h a cap l where
  im : ∀ ad, a = some ad → 0 < cap → I ad.block
structure OwnX {α : Type} (T : Ty α) (G I : Gh) (h : Heap) (a : Option Addr) (cap : Nat) (l : List α) : Prop extends Sl T G h a cap l where
  ow : ∀ ad, a = some ad → ad.spot = none ∧ ¬ I ad.block ∧ ∃ c t, h[ad.block]? = some (.cells c t (0, 0)) ∧ ad.off + cap * T.size ≤ c.size
abbrev Own {α : Type} (T : Ty α) (I : Gh) (h : Heap) (a : Option Addr) (cap : Nat) (l : List α) : Prop := OwnX T I I h a cap l
def Or2 (A B : Gh) : Gh := fun b => A b ∨ B b
section
variable {α : Type} {T : Ty α} {G G' I I' M B X : Gh} {h h' : Heap} {a : Option Addr} {cap : Nat} {l : List α}
theorem Sl.up (s : Sl T I h a cap l) (u : Up I h I' h') (hk : ∀ ad, a = some ad → 0 < cap → h'[ad.block]? = h[ad.block]?) : Sl T I' h' a cap l where
  nil := s.nil
  le := s.le
  some_ ad e hc0 := by
    obtain ⟨h1, c, t, fr, hc, hf, hr⟩ := s.some_ ad e hc0
    exact ⟨h1, c, t, fr, (hk ad e hc0).trans hc, hf, fun i hi => T.up u (hr i hi)⟩
theorem Rd.up (s : Rd T I h a cap l) (u : Up I h I' h') : Rd T I' h' a cap l where
  toSl := s.toSl.up u (fun ad e c => u.keep _ (s.im ad e c))
  im ad e c := u.sub _ (s.im ad e c)
theorem up_sub (hs : ∀ b, I b → I' b) : Up I h I' h := ⟨hs, fun _ _ => rfl⟩
theorem Rd.mono (s : Rd T I h a cap l) (hs : ∀ b, I b → I' b) : Rd T I' h a cap l := s.up (up_sub hs)
theorem OwnX.lt (s : OwnX T G I h a cap l) : ∀ b, InA a b → b < h.size := by
  rintro b ⟨ad, e, rfl⟩
  obtain ⟨_, _, c, t, hc, _⟩ := s.ow ad e
  exact lt_of_some hc
theorem OwnX.notI (s : OwnX T G I h a cap l) : ∀ b, InA a b → ¬ I b := by rintro b ⟨ad, e, rfl⟩; exact (s.ow ad e).2.1
theorem OwnX.postX (s : OwnX T G I h a cap l) (u : Up G h G' h') (p : Pst M I h I' h') (hm : ∀ b, InA a b → ¬ M b) : OwnX T G' I' h' a cap l where
  toSl := s.toSl.up u (fun ad e _ => p.keep _ (s.lt _ ⟨ad, e, rfl⟩) (hm _ ⟨ad, e, rfl⟩))
  ow ad e := by
    obtain ⟨h0, h1, c, t, h2, h3⟩ := s.ow ad e
    have hm := hm _ ⟨ad, e, rfl⟩
    have hl := s.lt _ ⟨ad, e, rfl⟩
    exact ⟨h0, p.notIn h1 hm hl, c, t, (p.keep _ hl hm).trans h2, h3⟩
theorem OwnX.post (s : OwnX T I I h a cap l) (hB : Bd I h) (p : Pst M I h I' h') (hd : ∀ b, M b → ¬ I b) (hm : ∀ b, InA a b → ¬ M b) : OwnX T I' I' h' a cap l :=
  s.postX (p.up hB hd) p hm
def Fz (I : Gh) (a : Option Addr) : Gh := fun b => I b ∨ InA a b
theorem up_fz : Up I h (Fz I a) h := ⟨fun _ x => .inl x, fun _ _ => rfl⟩
theorem OwnX.rd (s : OwnX T G I h a cap l) : Rd T (Fz G a) h a cap l where
  toSl := s.toSl.up up_fz (fun _ _ _ => rfl)
  im ad e _ := .inr ⟨ad, e, rfl⟩
theorem OwnX.fzX (s : OwnX T G I h a cap l) {a2 : Option Addr} (u : Up G h G' h) (hne : ∀ b, InA a b → ¬ InA a2 b) : OwnX T G' (Fz I a2) h a cap l where
  toSl := s.toSl.up u (fun _ _ _ => rfl)
  ow ad e := by
    obtain ⟨h0, h1, h2⟩ := s.ow ad e
    exact ⟨h0, fun x => x.elim h1 (hne _ ⟨ad, e, rfl⟩), h2⟩
theorem OwnX.fz (s : OwnX T I I h a cap l) {a2 : Option Addr} (hne : ∀ b, InA a b → ¬ InA a2 b) : OwnX T (Fz I a2) (Fz I a2) h a cap l := s.fzX up_fz hne
theorem OwnB.fz {b : Nat} {cs : List Value} {t : TypeId} (o : OwnB I h b cs t) {a2 : Option Addr} (hne : ¬ InA a2 b) : OwnB (Fz I a2) h b cs t :=
  ⟨o.at_, fun x => x.elim o.no hne⟩
theorem rd_nil (T : Ty α) (I : Gh) (h : Heap) : Rd T I h none 0 [] := ⟨⟨fun _ => ⟨rfl, rfl⟩, Nat.le_refl _, fun _ e => by cases e⟩, fun _ e => by cases e⟩
theorem own_nil (T : Ty α) (G I : Gh) (h : Heap) : OwnX T G I h none 0 [] := ⟨⟨fun _ => ⟨rfl, rfl⟩, Nat.le_refl _, fun _ e => by cases e⟩, fun _ e => by cases e⟩
theorem Bd.mono (b : Bd B h) (s : h.size ≤ h'.size) : Bd B h' := fun c x => Nat.lt_of_lt_of_le (b c x) s
theorem bdOr (b : Bd I h) (c : Bd B h) : Bd (Or2 I B) h := fun d x => x.elim (b d) (c d)
theorem upOr (u : Up I h I' h') (k : ∀ b, X b → h'[b]? = h[b]?) : Up (Or2 I X) h (Or2 I' X) h' where
  sub b x := x.imp (u.sub b) id
  keep b x := x.elim (u.keep b) (k b)
theorem keepB (p : Pst M I h I' h') (hb : Bd B h) (hm : ∀ b, M b → ¬ B b) : ∀ b, B b → h'[b]? = h[b]? := fun b x => p.keep b (hb b x) (fun y => hm b y x)
def at_ [Inhabited α] (l : List α) (i : Int) : α := l.getD i.toNat default
def elemPtr (a : Option Addr) (n : Nat) : Value :=
  match a with
  | some ad => .pointer (some ⟨ad.block, ad.off + n, none⟩)
  | none => .pointer none
theorem at_eq [Inhabited α] {l : List α} {i : Int} {hi : i.toNat < l.length} : at_ l i = l[i.toNat] := by
  unfold at_; rw [List.getD_eq_getElem?_getD, List.getElem?_eq_getElem hi]; rfl
theorem Sl.elem [Inhabited α] (s : Sl T I h a cap l) {i : Int} (h0 : 0 ≤ i) (h1 : i < (l.length : Int)) :
    ∃ b o c t fr, a = some ⟨b, o, none⟩ ∧ h[b]? = some (.cells c t fr) ∧ o + i.toNat * T.size + T.size ≤ c.size ∧ T.rep I h (seg c (o + i.toNat * T.size) T.size) (at_ l i) := by
  have hi : i.toNat < l.length := by omega
  cases a with
  | none => have := (s.nil rfl).1; subst this; simp at hi
  | some ad =>
    have hc := s.le
    obtain ⟨hs, c, t, fr, hb, hf, hr⟩ := s.some_ ad rfl (by omega)
    obtain ⟨b, o, sp⟩ := ad
    cases hs
    refine ⟨b, o, c, t, fr, rfl, hb, ?_, ?_⟩
    · have : (i.toNat + 1) * T.size ≤ cap * T.size := Nat.mul_le_mul_right _ (by omega)
      rw [Nat.add_mul, Nat.one_mul] at this
      have hf' : o + cap * T.size ≤ c.size := hf
      omega
    · rw [at_eq (hi := hi)]; exact hr _ hi
end
def tInt (k : IntKind) : Ty Int where
  size := 1
  rep _ _ cs x := cs = [.int k x]
  len := by rintro _ _ _ _ rfl; rfl
  one := by rintro _ _ _ _ rfl v hv; simp at hv; subst hv; rfl
  up := by intro _ _ _ _ _ _ _ e; exact e
def tBool : Ty Bool where
  size := 1
  rep _ _ cs x := cs = [.bool x]
  len := by rintro _ _ _ _ rfl; rfl
  one := by rintro _ _ _ _ rfl v hv; simp at hv; subst hv; rfl
  up := by intro _ _ _ _ _ _ _ e; exact e
def tStr : Ty ByteArray where
  size := 1
  rep _ _ cs x := cs = [.string x]
  len := by rintro _ _ _ _ rfl; rfl
  one := by rintro _ _ _ _ rfl v hv; simp at hv; subst hv; rfl
  up := by intro _ _ _ _ _ _ _ e; exact e
def tSl {α : Type} (T : Ty α) : Ty (List α) where
  size := 1
  rep I h cs x := ∃ a n cap, cs = [.slice a n cap] ∧ (Rd T I h a cap x ∧ x.length = n)
  len := by rintro _ _ _ _ ⟨_, _, _, rfl, _⟩; rfl
  one := by rintro _ _ _ _ ⟨_, _, _, rfl, _⟩ v hv; simp at hv; subst hv; rfl
  up := by rintro _ _ _ _ _ _ u ⟨a, n, cap, rfl, r, e⟩; exact ⟨a, n, cap, rfl, r.up u, e⟩
end Go.Proofs.YtjkbhpokboolpaaGreatDoor.Sx
