import Derived.Test.YtjkbhpokboolpaaGreatDoorV0
namespace Go.Proofs.YtjkbhpokboolpaaGreatDoor.Sx
open Go
structure Rs where
  F : Gh
  ok : Gh → Gh → Heap → Prop
  st : ∀ {B I I' : Gh} {h h' : Heap}, Up I h I' h' → (∀ b, B b → h'[b]? = h[b]?) → (∀ b, F b → h'[b]? = h[b]?) → ok B I h → ok B I' h'
  mo : ∀ {B B' I : Gh} {h : Heap}, (∀ b, B b → I b ∨ B' b) → ok B I h → ok B' I h
  bi : Bool
  hbi : bi = true → ∀ {B B' I : Gh} {h : Heap}, ok B I h → ok B' I h
structure En where
  M : Gh
  I : Gh
  B : Gh
  h : Heap
def SF : List Rs → Gh
  | [] => No
  | r :: L => Or2 r.F (SF L)
def Sep (B I : Gh) (h : Heap) : List Rs → Prop
  | [] => True
  | r :: L => (r.ok B I h ∧ (∀ b, r.F b → b < h.size ∧ ¬ I b) ∧ ∀ b, r.F b → ¬ SF L b) ∧ Sep B I h L
structure St (E : En) (L : List Rs) (I : Gh) (h : Heap) : Prop where
  pst : Pst E.M E.I E.h I h
  bB : Bd E.B E.h
  mB : ∀ b, E.M b → ¬ E.B b
  sep : Sep E.B I h L
  nw : ∀ b, SF L b → E.M b ∨ E.h.size ≤ b
section
variable {E : En} {L L' L1 L2 R own rest facts : List Rs} {r r' r1 r2 : Rs} {B B' I I' : Gh} {h h' : Heap}
theorem Sep.lt : ∀ {L : List Rs}, Sep B I h L → ∀ b, SF L b → b < h.size ∧ ¬ I b
  | [], _, _, x => x.elim
  | _ :: _, s, b, x => x.elim (s.1.2.1 b) (Sep.lt s.2 b)
theorem Sep.mono : ∀ {L : List Rs}, Sep B I h L → Up I h I' h' → (∀ b, B b → h'[b]? = h[b]?) → (∀ b, SF L b → h'[b]? = h[b]? ∧ ¬ I' b) → h.size ≤ h'.size → Sep B I' h' L
  | [], _, _, _, _, _ => trivial
  | r :: L, s, u, hB, hk, hz =>
    ⟨⟨r.st u hB (fun b x => (hk b (.inl x)).1) s.1.1, fun b x => ⟨Nat.lt_of_lt_of_le (s.1.2.1 b x).1 hz, (hk b (.inl x)).2⟩, s.1.2.2⟩, Sep.mono s.2 u hB (fun b x => hk b (.inr x)) hz⟩
theorem Sep.bup (hB : ∀ b, B b → I b ∨ B' b) : ∀ {L : List Rs}, Sep B I h L → Sep B' I h L
  | [], _ => trivial
  | r :: _, s => ⟨⟨r.mo hB s.1.1, s.1.2⟩, Sep.bup hB s.2⟩
theorem Sep.bmono : ∀ {L : List Rs}, Sep B I h L → L.all Rs.bi = true → Sep B' I h L
  | [], _, _ => trivial
  | r :: L, s, e => by
    rw [List.all_cons, Bool.and_eq_true] at e
    exact ⟨⟨r.hbi e.1 s.1.1, s.1.2⟩, s.2.bmono e.2⟩
theorem St.bd (hs : St E L I h) : Bd I h := hs.pst.bd
theorem St.keep (hs : St E L I h) : Keep E.M E.h h := hs.pst.keep
theorem St.notB (hs : St E L I h) : ∀ b, SF L b → ¬ E.B b := fun b x y => (hs.nw b x).elim (fun z => hs.mB b z y) (fun z => by have := hs.bB b y; omega)
theorem St.bdB (hs : St E L I h) : Bd E.B h := fun b x => Nat.lt_of_lt_of_le (hs.bB b x) hs.pst.size
theorem St.keepB (hs : St E L I h) {M : Gh} (p : Pst M I h I' h') (hM : ∀ b, M b → SF L b) : ∀ b, E.B b → h'[b]? = h[b]? :=
  fun b x => p.keep b (hs.bdB b x) (fun y => hs.notB b (hM b y) x)
theorem St.upM (hs : St E L I h) {M : Gh} (p : Pst M I h I' h') (hM : ∀ b, M b → SF L b) : Up I h I' h' := p.up hs.bd (fun b x => (hs.sep.lt b (hM b x)).2)
theorem St.upd (hs : St E (r :: L) I h) (p : Pst r.F I h I' h') (ok : r'.ok E.B I' h') (hF : ∀ b, r'.F b → (r.F b ∨ h.size ≤ b) ∧ b < h'.size ∧ ¬ I' b) : St E (r' :: L) I' h' := by
  have hM : ∀ b, r.F b → SF (r :: L) b := fun b x => .inl x
  have hk : ∀ b, SF L b → h'[b]? = h[b]? ∧ ¬ I' b := fun b x => by
    have hn : ¬ r.F b := fun y => hs.sep.1.2.2 b y x
    have hl := hs.sep.2.lt b x
    exact ⟨p.keep b hl.1 hn, p.notIn hl.2 hn hl.1⟩
  refine ⟨hs.pst.own p (fun b x => hs.nw b (hM b x)), hs.bB, hs.mB, ⟨⟨ok, fun b x => (hF b x).2, fun b x y => ?_⟩, hs.sep.2.mono (hs.upM p hM) (hs.keepB p hM) hk p.size⟩, ?_⟩
  · rcases (hF b x).1 with z | z
    · exact hs.sep.1.2.2 b z y
    · have := (hs.sep.2.lt b y).1; omega
  · rintro b (x | x)
    · rcases (hF b x).1 with z | z
      · exact hs.nw b (.inl z)
      · exact .inr (Nat.le_trans hs.pst.size z)
    · exact hs.nw b (.inr x)
theorem St.new (hs : St E L I h) (p : Pst No I h I' h') (ok : r.ok E.B I' h') (hF : ∀ b, r.F b → h.size ≤ b ∧ b < h'.size ∧ ¬ I' b) : St E (r :: L) I' h' := by
  have hM : ∀ b, No b → SF L b := fun b x => x.elim
  have hk : ∀ b, SF L b → h'[b]? = h[b]? ∧ ¬ I' b := fun b x => by
    have hl := hs.sep.lt b x
    exact ⟨p.keep b hl.1 (fun y => y), p.notIn hl.2 (fun y => y) hl.1⟩
  refine ⟨hs.pst.no p, hs.bB, hs.mB, ⟨⟨ok, fun b x => (hF b x).2, fun b x y => ?_⟩, hs.sep.mono (hs.upM p hM) (hs.keepB p hM) hk p.size⟩, ?_⟩
  · have := (hs.sep.lt b y).1; have := (hF b x).1; omega
  · rintro b (x | x)
    · exact .inr (Nat.le_trans hs.pst.size (hF b x).1)
    · exact hs.nw b x
theorem St.fz (hs : St E (r :: L) I h) (ok : r'.ok E.B (Or2 I r.F) h) (hF : ∀ b, ¬ r'.F b) : St E (r' :: L) (Or2 I r.F) h := by
  have u : Up I h (Or2 I r.F) h := ⟨fun _ x => .inl x, fun _ _ => rfl⟩
  refine ⟨⟨fun b x => .inl (hs.pst.sub b x), fun b x => x.elim (hs.pst.new b) (fun x => .inr (hs.nw b (.inl x))), fun b x => x.elim (hs.bd b) (fun x => (hs.sep.1.2.1 b x).1), hs.pst.size, hs.pst.keep, hs.pst.un⟩, hs.bB, hs.mB,
    ⟨⟨ok, fun b x => absurd x (hF b), fun b x => absurd x (hF b)⟩, hs.sep.2.mono u (fun _ _ => rfl) (fun b x => ⟨rfl, fun y => y.elim (hs.sep.2.lt b x).2 (fun z => hs.sep.1.2.2 b z x)⟩) (Nat.le_refl _)⟩, ?_⟩
  rintro b (x | x)
  · exact absurd x (hF b)
  · exact hs.nw b (.inr x)
theorem St.pers (hs : St E L I h) (ok : r.ok E.B I h) (hF : ∀ b, ¬ r.F b) : St E (r :: L) I h :=
  ⟨hs.pst, hs.bB, hs.mB, ⟨⟨ok, fun b x => absurd x (hF b), fun b x => absurd x (hF b)⟩, hs.sep⟩, fun b x => x.elim (fun x => absurd x (hF b)) (hs.nw b)⟩
theorem St.imp (hs : St E (r :: L) I h) (ok : r'.ok E.B I h) (hF : ∀ b, r'.F b → r.F b) : St E (r' :: L) I h :=
  ⟨hs.pst, hs.bB, hs.mB, ⟨⟨ok, fun b x => hs.sep.1.2.1 b (hF b x), fun b x => hs.sep.1.2.2 b (hF b x)⟩, hs.sep.2⟩, fun b x => hs.nw b (x.elim (fun y => .inl (hF b y)) .inr)⟩
inductive Del : List Rs → Rs → List Rs → Prop where
  | z {L : List Rs} {r : Rs} : Del (r :: L) r L
  | s {L L' : List Rs} {x r : Rs} : Del L r L' → Del (x :: L) r (x :: L')
theorem Del.sf (d : Del L r L') : ∀ b, SF L b ↔ r.F b ∨ SF L' b := by
  induction d with
  | z => intro b; exact Iff.rfl
  | s d ih =>
    intro b
    constructor
    · rintro (x | x)
      · exact .inr (.inl x)
      · exact ((ih b).1 x).imp id .inr
    · rintro (x | x | x)
      · exact .inr ((ih b).2 (.inl x))
      · exact .inl x
      · exact .inr ((ih b).2 (.inr x))
theorem Del.sep (d : Del L r L') (hs : Sep B I h L) : Sep B I h (r :: L') := by
  induction d with
  | z => exact hs
  | s d ih =>
    obtain ⟨⟨o, l, n⟩, t⟩ := hs
    obtain ⟨⟨o', l', n'⟩, t'⟩ := ih t
    refine ⟨⟨o', l', ?_⟩, ⟨o, l, fun b x y => n b x ((d.sf b).2 (.inr y))⟩, t'⟩
    rintro b x (y | y)
    · exact n b y ((d.sf b).2 (.inl x))
    · exact n' b x y
theorem St.f (hs : St E L I h) (d : Del L r L') : St E (r :: L') I h := ⟨hs.pst, hs.bB, hs.mB, d.sep hs.sep, fun b x => hs.nw b ((d.sf b).2 x)⟩
theorem St.g (hs : St E L I h) (d : Del L r L') : r.ok E.B I h := (d.sep hs.sep).1.1
theorem St.drop (hs : St E (r :: L) I h) : St E L I h := ⟨hs.pst, hs.bB, hs.mB, hs.sep.2, fun b x => hs.nw b (.inr x)⟩
end
theorem d0 {r : Rs} {L : List Rs} : Del (r :: L) r L := .z
theorem d1 {x0 r : Rs} {L : List Rs} : Del (x0 :: r :: L) r (x0 :: L) := .s d0
theorem d2 {x0 x1 r : Rs} {L : List Rs} : Del (x0 :: x1 :: r :: L) r (x0 :: x1 :: L) := .s d1
theorem d3 {x0 x1 x2 r : Rs} {L : List Rs} : Del (x0 :: x1 :: x2 :: r :: L) r (x0 :: x1 :: x2 :: L) := .s d2
theorem d4 {x0 x1 x2 x3 r : Rs} {L : List Rs} : Del (x0 :: x1 :: x2 :: x3 :: r :: L) r (x0 :: x1 :: x2 :: x3 :: L) := .s d3
theorem d5 {x0 x1 x2 x3 x4 r : Rs} {L : List Rs} : Del (x0 :: x1 :: x2 :: x3 :: x4 :: r :: L) r (x0 :: x1 :: x2 :: x3 :: x4 :: L) := .s d4
theorem d6 {x0 x1 x2 x3 x4 x5 r : Rs} {L : List Rs} : Del (x0 :: x1 :: x2 :: x3 :: x4 :: x5 :: r :: L) r (x0 :: x1 :: x2 :: x3 :: x4 :: x5 :: L) := .s d5
theorem d7 {x0 x1 x2 x3 x4 x5 x6 r : Rs} {L : List Rs} : Del (x0 :: x1 :: x2 :: x3 :: x4 :: x5 :: x6 :: r :: L) r (x0 :: x1 :: x2 :: x3 :: x4 :: x5 :: x6 :: L) := .s d6
theorem d8 {x0 x1 x2 x3 x4 x5 x6 x7 r : Rs} {L : List Rs} : Del (x0 :: x1 :: x2 :: x3 :: x4 :: x5 :: x6 :: x7 :: r :: L) r (x0 :: x1 :: x2 :: x3 :: x4 :: x5 :: x6 :: x7 :: L) := .s d7
theorem d9 {x0 x1 x2 x3 x4 x5 x6 x7 x8 r : Rs} {L : List Rs} : Del (x0 :: x1 :: x2 :: x3 :: x4 :: x5 :: x6 :: x7 :: x8 :: r :: L) r (x0 :: x1 :: x2 :: x3 :: x4 :: x5 :: x6 :: x7 :: x8 :: L) := .s d8
theorem d10 {x0 x1 x2 x3 x4 x5 x6 x7 x8 x9 r : Rs} {L : List Rs} : Del (x0 :: x1 :: x2 :: x3 :: x4 :: x5 :: x6 :: x7 :: x8 :: x9 :: r :: L) r (x0 :: x1 :: x2 :: x3 :: x4 :: x5 :: x6 :: x7 :: x8 :: x9 :: L) := .s d9
theorem d11 {x0 x1 x2 x3 x4 x5 x6 x7 x8 x9 x10 r : Rs} {L : List Rs} : Del (x0 :: x1 :: x2 :: x3 :: x4 :: x5 :: x6 :: x7 :: x8 :: x9 :: x10 :: r :: L) r (x0 :: x1 :: x2 :: x3 :: x4 :: x5 :: x6 :: x7 :: x8 :: x9 :: x10 :: L) := .s d10
theorem d12 {x0 x1 x2 x3 x4 x5 x6 x7 x8 x9 x10 x11 r : Rs} {L : List Rs} : Del (x0 :: x1 :: x2 :: x3 :: x4 :: x5 :: x6 :: x7 :: x8 :: x9 :: x10 :: x11 :: r :: L) r (x0 :: x1 :: x2 :: x3 :: x4 :: x5 :: x6 :: x7 :: x8 :: x9 :: x10 :: x11 :: L) := .s d11
theorem d13 {x0 x1 x2 x3 x4 x5 x6 x7 x8 x9 x10 x11 x12 r : Rs} {L : List Rs} : Del (x0 :: x1 :: x2 :: x3 :: x4 :: x5 :: x6 :: x7 :: x8 :: x9 :: x10 :: x11 :: x12 :: r :: L) r (x0 :: x1 :: x2 :: x3 :: x4 :: x5 :: x6 :: x7 :: x8 :: x9 :: x10 :: x11 :: x12 :: L) := .s d12
theorem d14 {x0 x1 x2 x3 x4 x5 x6 x7 x8 x9 x10 x11 x12 x13 r : Rs} {L : List Rs} : Del (x0 :: x1 :: x2 :: x3 :: x4 :: x5 :: x6 :: x7 :: x8 :: x9 :: x10 :: x11 :: x12 :: x13 :: r :: L) r (x0 :: x1 :: x2 :: x3 :: x4 :: x5 :: x6 :: x7 :: x8 :: x9 :: x10 :: x11 :: x12 :: x13 :: L) := .s d13
theorem d15 {x0 x1 x2 x3 x4 x5 x6 x7 x8 x9 x10 x11 x12 x13 x14 r : Rs} {L : List Rs} : Del (x0 :: x1 :: x2 :: x3 :: x4 :: x5 :: x6 :: x7 :: x8 :: x9 :: x10 :: x11 :: x12 :: x13 :: x14 :: r :: L) r (x0 :: x1 :: x2 :: x3 :: x4 :: x5 :: x6 :: x7 :: x8 :: x9 :: x10 :: x11 :: x12 :: x13 :: x14 :: L) := .s d14
theorem d16 {x0 x1 x2 x3 x4 x5 x6 x7 x8 x9 x10 x11 x12 x13 x14 x15 r : Rs} {L : List Rs} : Del (x0 :: x1 :: x2 :: x3 :: x4 :: x5 :: x6 :: x7 :: x8 :: x9 :: x10 :: x11 :: x12 :: x13 :: x14 :: x15 :: r :: L) r (x0 :: x1 :: x2 :: x3 :: x4 :: x5 :: x6 :: x7 :: x8 :: x9 :: x10 :: x11 :: x12 :: x13 :: x14 :: x15 :: L) := .s d15
theorem d17 {x0 x1 x2 x3 x4 x5 x6 x7 x8 x9 x10 x11 x12 x13 x14 x15 x16 r : Rs} {L : List Rs} : Del (x0 :: x1 :: x2 :: x3 :: x4 :: x5 :: x6 :: x7 :: x8 :: x9 :: x10 :: x11 :: x12 :: x13 :: x14 :: x15 :: x16 :: r :: L) r (x0 :: x1 :: x2 :: x3 :: x4 :: x5 :: x6 :: x7 :: x8 :: x9 :: x10 :: x11 :: x12 :: x13 :: x14 :: x15 :: x16 :: L) := .s d16
theorem d18 {x0 x1 x2 x3 x4 x5 x6 x7 x8 x9 x10 x11 x12 x13 x14 x15 x16 x17 r : Rs} {L : List Rs} : Del (x0 :: x1 :: x2 :: x3 :: x4 :: x5 :: x6 :: x7 :: x8 :: x9 :: x10 :: x11 :: x12 :: x13 :: x14 :: x15 :: x16 :: x17 :: r :: L) r (x0 :: x1 :: x2 :: x3 :: x4 :: x5 :: x6 :: x7 :: x8 :: x9 :: x10 :: x11 :: x12 :: x13 :: x14 :: x15 :: x16 :: x17 :: L) := .s d17
theorem d19 {x0 x1 x2 x3 x4 x5 x6 x7 x8 x9 x10 x11 x12 x13 x14 x15 x16 x17 x18 r : Rs} {L : List Rs} : Del (x0 :: x1 :: x2 :: x3 :: x4 :: x5 :: x6 :: x7 :: x8 :: x9 :: x10 :: x11 :: x12 :: x13 :: x14 :: x15 :: x16 :: x17 :: x18 :: r :: L) r (x0 :: x1 :: x2 :: x3 :: x4 :: x5 :: x6 :: x7 :: x8 :: x9 :: x10 :: x11 :: x12 :: x13 :: x14 :: x15 :: x16 :: x17 :: x18 :: L) := .s d18
theorem d20 {x0 x1 x2 x3 x4 x5 x6 x7 x8 x9 x10 x11 x12 x13 x14 x15 x16 x17 x18 x19 r : Rs} {L : List Rs} : Del (x0 :: x1 :: x2 :: x3 :: x4 :: x5 :: x6 :: x7 :: x8 :: x9 :: x10 :: x11 :: x12 :: x13 :: x14 :: x15 :: x16 :: x17 :: x18 :: x19 :: r :: L) r (x0 :: x1 :: x2 :: x3 :: x4 :: x5 :: x6 :: x7 :: x8 :: x9 :: x10 :: x11 :: x12 :: x13 :: x14 :: x15 :: x16 :: x17 :: x18 :: x19 :: L) := .s d19
theorem d21 {x0 x1 x2 x3 x4 x5 x6 x7 x8 x9 x10 x11 x12 x13 x14 x15 x16 x17 x18 x19 x20 r : Rs} {L : List Rs} : Del (x0 :: x1 :: x2 :: x3 :: x4 :: x5 :: x6 :: x7 :: x8 :: x9 :: x10 :: x11 :: x12 :: x13 :: x14 :: x15 :: x16 :: x17 :: x18 :: x19 :: x20 :: r :: L) r (x0 :: x1 :: x2 :: x3 :: x4 :: x5 :: x6 :: x7 :: x8 :: x9 :: x10 :: x11 :: x12 :: x13 :: x14 :: x15 :: x16 :: x17 :: x18 :: x19 :: x20 :: L) := .s d20
theorem d22 {x0 x1 x2 x3 x4 x5 x6 x7 x8 x9 x10 x11 x12 x13 x14 x15 x16 x17 x18 x19 x20 x21 r : Rs} {L : List Rs} : Del (x0 :: x1 :: x2 :: x3 :: x4 :: x5 :: x6 :: x7 :: x8 :: x9 :: x10 :: x11 :: x12 :: x13 :: x14 :: x15 :: x16 :: x17 :: x18 :: x19 :: x20 :: x21 :: r :: L) r (x0 :: x1 :: x2 :: x3 :: x4 :: x5 :: x6 :: x7 :: x8 :: x9 :: x10 :: x11 :: x12 :: x13 :: x14 :: x15 :: x16 :: x17 :: x18 :: x19 :: x20 :: x21 :: L) := .s d21
theorem d23 {x0 x1 x2 x3 x4 x5 x6 x7 x8 x9 x10 x11 x12 x13 x14 x15 x16 x17 x18 x19 x20 x21 x22 r : Rs} {L : List Rs} : Del (x0 :: x1 :: x2 :: x3 :: x4 :: x5 :: x6 :: x7 :: x8 :: x9 :: x10 :: x11 :: x12 :: x13 :: x14 :: x15 :: x16 :: x17 :: x18 :: x19 :: x20 :: x21 :: x22 :: r :: L) r (x0 :: x1 :: x2 :: x3 :: x4 :: x5 :: x6 :: x7 :: x8 :: x9 :: x10 :: x11 :: x12 :: x13 :: x14 :: x15 :: x16 :: x17 :: x18 :: x19 :: x20 :: x21 :: x22 :: L) := .s d22
theorem d24 {x0 x1 x2 x3 x4 x5 x6 x7 x8 x9 x10 x11 x12 x13 x14 x15 x16 x17 x18 x19 x20 x21 x22 x23 r : Rs} {L : List Rs} : Del (x0 :: x1 :: x2 :: x3 :: x4 :: x5 :: x6 :: x7 :: x8 :: x9 :: x10 :: x11 :: x12 :: x13 :: x14 :: x15 :: x16 :: x17 :: x18 :: x19 :: x20 :: x21 :: x22 :: x23 :: r :: L) r (x0 :: x1 :: x2 :: x3 :: x4 :: x5 :: x6 :: x7 :: x8 :: x9 :: x10 :: x11 :: x12 :: x13 :: x14 :: x15 :: x16 :: x17 :: x18 :: x19 :: x20 :: x21 :: x22 :: x23 :: L) := .s d23
theorem d25 {x0 x1 x2 x3 x4 x5 x6 x7 x8 x9 x10 x11 x12 x13 x14 x15 x16 x17 x18 x19 x20 x21 x22 x23 x24 r : Rs} {L : List Rs} : Del (x0 :: x1 :: x2 :: x3 :: x4 :: x5 :: x6 :: x7 :: x8 :: x9 :: x10 :: x11 :: x12 :: x13 :: x14 :: x15 :: x16 :: x17 :: x18 :: x19 :: x20 :: x21 :: x22 :: x23 :: x24 :: r :: L) r (x0 :: x1 :: x2 :: x3 :: x4 :: x5 :: x6 :: x7 :: x8 :: x9 :: x10 :: x11 :: x12 :: x13 :: x14 :: x15 :: x16 :: x17 :: x18 :: x19 :: x20 :: x21 :: x22 :: x23 :: x24 :: L) := .s d24
theorem d26 {x0 x1 x2 x3 x4 x5 x6 x7 x8 x9 x10 x11 x12 x13 x14 x15 x16 x17 x18 x19 x20 x21 x22 x23 x24 x25 r : Rs} {L : List Rs} : Del (x0 :: x1 :: x2 :: x3 :: x4 :: x5 :: x6 :: x7 :: x8 :: x9 :: x10 :: x11 :: x12 :: x13 :: x14 :: x15 :: x16 :: x17 :: x18 :: x19 :: x20 :: x21 :: x22 :: x23 :: x24 :: x25 :: r :: L) r (x0 :: x1 :: x2 :: x3 :: x4 :: x5 :: x6 :: x7 :: x8 :: x9 :: x10 :: x11 :: x12 :: x13 :: x14 :: x15 :: x16 :: x17 :: x18 :: x19 :: x20 :: x21 :: x22 :: x23 :: x24 :: x25 :: L) := .s d25
inductive Cl where
  | i
  | b
def Cl.G : Cl → Gh → Gh → Gh
  | .i, _, I => I
  | .b, B, I => Or2 I B
theorem Cl.up {k : Cl} {B I I' : Gh} {h h' : Heap} (u : Up I h I' h') (hB : ∀ b, B b → h'[b]? = h[b]?) : Up (k.G B I) h (k.G B I') h' := by
  cases k with
  | i => exact u
  | b => exact upOr u hB
def Cl.bi : Cl → Bool
  | .i => true
  | .b => false
theorem Cl.mo {k : Cl} {B B' I : Gh} (hB : ∀ b, B b → I b ∨ B' b) : ∀ b, k.G B I b → k.G B' I b := by
  cases k with
  | i => exact fun _ x => x
  | b => exact fun b x => x.elim .inl (hB b)
theorem Cl.hbi {k : Cl} {B B' I : Gh} (e : k.bi = true) : k.G B I = k.G B' I := by cases k; rfl; cases e
def emp : Rs := ⟨No, fun _ _ _ => True, fun _ _ _ _ => trivial, fun _ _ => trivial, true, fun _ _ _ _ _ _ => trivial⟩
def rB (b : Nat) (cs : List Value) (T : TypeId) : Rs :=
  ⟨One b, fun _ _ h => h[b]? = some (.cells cs.toArray T (0, 0)), fun _ _ k e => (k b rfl).trans e, fun _ e => e, true, fun _ _ _ _ _ e => e⟩
def rR {α : Type} (T : Ty α) (k : Cl) (a : Option Addr) (c n : Nat) (l : List α) : Rs :=
  ⟨No, fun B I h => Rd T (k.G B I) h a c l ∧ l.length = n, fun u hB _ e => ⟨e.1.up (Cl.up u hB), e.2⟩, fun hB e => ⟨e.1.mono (Cl.mo hB), e.2⟩, k.bi, fun e _ _ _ _ q => Cl.hbi e ▸ q⟩
structure OwS {α : Type} (T : Ty α) (h : Heap) (a : Option Addr) (c : Nat) : Prop where
  ow : ∀ ad, a = some ad → ad.spot = none ∧ ∃ cc t, h[ad.block]? = some (.cells cc t (0, 0)) ∧ ad.off + c * T.size ≤ cc.size
def rO {α : Type} (T : Ty α) (k : Cl) (a : Option Addr) (c n : Nat) (l : List α) : Rs :=
  ⟨InA a, fun B I h => (Sl T (k.G B I) h a c l ∧ OwS T h a c) ∧ l.length = n, fun u hB hF e => ⟨⟨e.1.1.up (Cl.up u hB) (fun ad q _ => hF _ ⟨ad, q, rfl⟩), ⟨fun ad q => by
    obtain ⟨h0, cc, t, h1, h2⟩ := e.1.2.ow ad q
    exact ⟨h0, cc, t, (hF _ ⟨ad, q, rfl⟩).trans h1, h2⟩⟩⟩, e.2⟩, fun hB e => ⟨⟨e.1.1.up (up_sub (Cl.mo hB)) (fun _ _ _ => rfl), e.1.2⟩, e.2⟩, k.bi, fun e _ _ _ _ q => Cl.hbi e ▸ q⟩
def rE (k : Cl) (v : Value) (x : GoErr) : Rs :=
  ⟨No, fun B I h => ErrV (k.G B I) h x v, fun u hB _ e => ErrV.up (Cl.up u hB) e, fun hB e => ErrV.up (up_sub (Cl.mo hB)) e, k.bi, fun e _ _ _ _ q => Cl.hbi e ▸ q⟩
def rL (b : Nat) (cs : List Value) (T : TypeId) : Rs :=
  ⟨No, fun B I h => h[b]? = some (.cells cs.toArray T (0, 0)) ∧ Or2 I B b, fun u hB _ e => ⟨(e.2.elim (u.keep b) (hB b)).trans e.1, e.2.imp (u.sub b) id⟩, fun hB e => ⟨e.1, e.2.elim .inl (hB b)⟩, false, fun e => by cases e⟩
section
variable {α : Type} {T : Ty α} {k : Cl} {E : En} {L L' L1 L2 R own rest facts : List Rs} {r r' r1 r2 : Rs} {B B' I I' : Gh} {h h' : Heap} {a a' : Option Addr} {c c' n n' : Nat} {l l' : List α} {b : Nat} {cs cs' : List Value} {t : TypeId} {v : Value} {x : GoErr}
structure Sn {α : Type} (T : Ty α) (G : Gh) (h : Heap) (a : Option Addr) (c n : Nat) (l : List α) : Prop extends Sl T G h a c l where
  len : l.length = n
theorem St.sR (hs : St E L I h) (d : Del L (rR T k a c n l) L') : Sn T (k.G E.B I) h a c n l := ⟨(hs.g d).1.toSl, (hs.g d).2⟩
theorem St.sO (hs : St E L I h) (d : Del L (rO T k a c n l) L') : Sn T (k.G E.B I) h a c n l := ⟨(hs.g d).1.1, (hs.g d).2⟩
theorem St.nR (hs : St E L I h) (d : Del L (rR T k a c n l) L') : n = l.length := (hs.g d).2.symm
theorem St.nO (hs : St E L I h) (d : Del L (rO T k a c n l) L') : n = l.length := (hs.g d).2.symm
theorem St.rd (hs : St E L I h) (d : Del L (rR T k a c n l) L') : Rd T (k.G E.B I) h a c l := (hs.g d).1
theorem St.er (hs : St E L I h) (d : Del L (rE k v x) L') : ErrV (k.G E.B I) h x v := hs.g d
theorem St.bl (hs : St E L I h) (d : Del L (rB b cs t) L') : OwnB I h b cs t := ⟨hs.g d, fun y => ((d.sep hs.sep).1.2.1 b rfl).2 y⟩
theorem St.notG (hs : St E L I h) (d : Del L r L') : ∀ b, r.F b → ¬ k.G E.B I b := fun b x y => by
  cases k with
  | i => exact ((d.sep hs.sep).1.2.1 b x).2 y
  | b => exact y.elim ((d.sep hs.sep).1.2.1 b x).2 (hs.notB b ((d.sf b).2 (.inl x)))
theorem St.bdG (hs : St E L I h) : Bd (k.G E.B I) h := by
  cases k with
  | i => exact hs.bd
  | b => exact bdOr hs.bd hs.bdB
theorem St.ow (hs : St E L I h) (d : Del L (rO T k a c n l) L') : OwnX T (k.G E.B I) I h a c l :=
  ⟨(hs.g d).1.1, fun ad q => by
    obtain ⟨h0, h1⟩ := (hs.g d).1.2.ow ad q
    exact ⟨h0, ((d.sep hs.sep).1.2.1 _ ⟨ad, q, rfl⟩).2, h1⟩⟩
theorem rO_ok (o : OwnX T (k.G B I) I h a c l) (e : l.length = n) : (rO T k a c n l).ok B I h := ⟨⟨o.toSl, ⟨fun ad q => ⟨(o.ow ad q).1, (o.ow ad q).2.2⟩⟩⟩, e⟩
theorem St.fO (hs : St E (rO T k a c n l :: L) I h) : ∃ I', St E (rR T k a c n l :: L) I' h := by
  refine ⟨_, hs.fz ⟨⟨(hs.g .z).1.1.up ?_ (fun _ _ _ => rfl), fun ad e _ => ?_⟩, (hs.g .z).2⟩ (fun _ x => x)⟩
  · cases k with
    | i => exact ⟨fun _ x => .inl x, fun _ _ => rfl⟩
    | b => exact ⟨fun _ x => x.imp .inl id, fun _ _ => rfl⟩
  · cases k with
    | i => exact .inr ⟨ad, e, rfl⟩
    | b => exact .inl (.inr ⟨ad, e, rfl⟩)
theorem St.fS {at_ : Int} (hs : St E (rB b [.int .i64 at_, v] 204 :: L) I h) (q : ErrV I h x v) : ∃ I', St E (rE .i (.iface 202 (.pointer (some ⟨b, 0, none⟩))) (.spot at_ x) :: L) I' h :=
  ⟨_, hs.fz ⟨b, v, (0, 0), rfl, .inr rfl, hs.g .z, q.up ⟨fun _ y => .inl y, fun _ _ => rfl⟩⟩ (fun _ x => x)⟩
theorem St.fA {ik : IntKind} {l : List Int} (hs : St E (rB b (l.map (Value.int ik)) t :: L) I h) (hl : l.length = n) : ∃ I', St E (rR (tInt ik) .i (some ⟨b, 0, none⟩) n n l :: L) I' h :=
  ⟨_, hs.fz ⟨ImB.arrRd ⟨hs.g .z, .inr rfl⟩ hl, hl⟩ (fun _ x => x)⟩
def Im (r r' : Rs) : Prop := (∀ b, r'.F b → r.F b) ∧ ∀ {B I : Gh} {h : Heap}, r.ok B I h → r'.ok B I h
inductive Pk : List Rs → List Rs → Prop where
  | n {L : List Rs} : Pk L []
  | c {L L1 L' : List Rs} {r : Rs} : Del L r L1 → Pk L1 L' → Pk L (r :: L')
  | w {L L1 L' : List Rs} {r r' : Rs} : Del L r L1 → Im r r' → Pk L1 L' → Pk L (r' :: L')
  | p {L L1 L' : List Rs} {r : Rs} : Del L r L1 → (∀ b, ¬ r.F b) → Pk L L' → Pk L (r :: L')
  | f {L L' : List Rs} {r : Rs} : Im emp r → Pk L L' → Pk L (r :: L')
theorem St.pk (hs : St E L I h) (p : Pk L L') : St E L' I h := by
  have key : ∀ {L L' : List Rs}, Pk L L' → Sep E.B I h L → Sep E.B I h L' ∧ ∀ b, SF L' b → SF L b := by
    intro L L' p
    induction p with
    | n => intro _; exact ⟨trivial, fun _ x => x.elim⟩
    | c d p ih =>
      intro s
      have s1 := d.sep s
      obtain ⟨q, f⟩ := ih s1.2
      exact ⟨⟨⟨s1.1.1, s1.1.2.1, fun b x y => s1.1.2.2 b x (f b y)⟩, q⟩, fun b x => (d.sf b).2 (x.imp id (f b))⟩
    | w d im p ih =>
      intro s
      have s1 := d.sep s
      obtain ⟨q, f⟩ := ih s1.2
      exact ⟨⟨⟨im.2 s1.1.1, fun b x => s1.1.2.1 b (im.1 b x), fun b x y => s1.1.2.2 b (im.1 b x) (f b y)⟩, q⟩, fun b x => (d.sf b).2 (x.imp (im.1 b) (f b))⟩
    | p d np p ih =>
      intro s
      have s1 := d.sep s
      obtain ⟨q, f⟩ := ih s
      exact ⟨⟨⟨s1.1.1, fun b x => absurd x (np b), fun b x => absurd x (np b)⟩, q⟩, fun b x => x.elim (fun y => absurd y (np b)) (f b)⟩
    | f im p ih =>
      intro s
      obtain ⟨q, f⟩ := ih s
      exact ⟨⟨⟨im.2 trivial, fun b x => (im.1 b x).elim, fun b x => (im.1 b x).elim⟩, q⟩, fun b x => x.elim (fun y => (im.1 b y).elim) (f b)⟩
  obtain ⟨s, f⟩ := key p hs.sep
  exact ⟨hs.pst, hs.bB, hs.mB, s, fun b x => hs.nw b (f b x)⟩
theorem noF : ∀ b, ¬ No b := fun _ x => x
theorem imIB : Im (rR T .i a c n l) (rR T .b a c n l) := ⟨fun _ x => x, fun q => ⟨q.1.mono (fun _ x => .inl x), q.2⟩⟩
theorem imRN {T : Ty α} : Im emp (rR T k none 0 0 []) := ⟨fun _ x => x, fun _ => ⟨rd_nil _ _ _, rfl⟩⟩
theorem imON {T : Ty α} : Im emp (rO T k none 0 0 []) := ⟨fun _ x => (inA_none x).elim, fun _ => ⟨⟨(rd_nil _ _ _).toSl, ⟨fun _ e => by cases e⟩⟩, rfl⟩⟩
theorem imEN : Im emp (rE k .nilIface .nil) := ⟨fun _ x => x, fun _ => rfl⟩
theorem imEC {m : Int} : Im emp (rE k (.iface 137 (.int .i64 m)) (.no m)) := ⟨fun _ x => x, fun _ => rfl⟩
inductive Tk : List Rs → List Rs → List Rs → Prop where
  | z {L : List Rs} : Tk L [] L
  | s {L own rest : List Rs} {x : Rs} : Tk L own rest → Tk (x :: L) (x :: own) rest
inductive Cat : List Rs → List Rs → List Rs → Prop where
  | z {L : List Rs} : Cat [] L L
  | s {A L C : List Rs} {x : Rs} : Cat A L C → Cat (x :: A) L (x :: C)
def Br1 (R : List Rs) (f : Rs) : Prop := (∀ b, ¬ f.F b) ∧ ∀ {B I : Gh} {h : Heap}, Sep B I h R → f.ok (Or2 (Or2 I B) (SF R)) I h
inductive Br (R : List Rs) : List Rs → Prop where
  | n : Br R []
  | c {f : Rs} {fs : List Rs} : Br1 R f → Br R fs → Br R (f :: fs)
theorem Br.nof (q : Br R facts) : ∀ b, ¬ SF facts b := by
  induction q with
  | n => exact fun _ x => x
  | c p _ ih => exact fun b x => x.elim (p.1 b) (ih b)
theorem Br.sep (q : Br R facts) (s : Sep B I h R) : Sep (Or2 (Or2 I B) (SF R)) I h facts := by
  induction q with
  | n => trivial
  | c p _ ih => exact ⟨⟨p.2 s, fun b x => absurd x (p.1 b), fun b x => absurd x (p.1 b)⟩, ih⟩
theorem sf_app : ∀ (A C : List Rs) (b : Nat), SF (A ++ C) b ↔ SF A b ∨ SF C b
  | [], _, _ => ⟨.inr, fun x => x.elim (fun y => y.elim) id⟩
  | x :: A, C, b => by
    have := sf_app A C b
    constructor
    · rintro (y | y)
      · exact .inl (.inl y)
      · exact (this.1 y).imp .inr id
    · rintro ((y | y) | y)
      · exact .inl y
      · exact .inr (this.2 (.inl y))
      · exact .inr (this.2 (.inr y))
theorem sep_app : ∀ {A C : List Rs}, Sep B I h A → Sep B I h C → (∀ b, SF A b → ¬ SF C b) → Sep B I h (A ++ C)
  | [], _, _, q, _ => q
  | x :: A, C, p, q, n => ⟨⟨p.1.1, p.1.2.1, fun b y z => ((sf_app A C b).1 z).elim (p.1.2.2 b y) (n b (.inl y))⟩, sep_app p.2 q (fun b y => n b (.inr y))⟩
theorem sep_split : ∀ {A C : List Rs}, Sep B I h (A ++ C) → Sep B I h A ∧ Sep B I h C ∧ ∀ b, SF A b → ¬ SF C b
  | [], _, q => ⟨trivial, q, fun _ x => x.elim⟩
  | x :: A, C, q => by
    obtain ⟨p1, p2, p3⟩ := sep_split q.2
    exact ⟨⟨⟨q.1.1, q.1.2.1, fun b y z => q.1.2.2 b y ((sf_app A C b).2 (.inl z))⟩, p1⟩, p2, fun b y z => y.elim (fun y => q.1.2.2 b y ((sf_app A C b).2 (.inr z))) (fun y => p3 b y z)⟩
theorem Tk.eq (t : Tk L own rest) : L = own ++ rest := by
  induction t with
  | z => rfl
  | s _ ih => rw [ih]; rfl
theorem Cat.eq (t : Cat L1 rest L2) : L2 = L1 ++ rest := by
  induction t with
  | z => rfl
  | s _ ih => rw [ih]; rfl
def en (ins : List Rs) (B I : Gh) (h : Heap) : En := ⟨SF ins, I, B, h⟩
theorem St.call (hs : St E L I h) (t : Tk L own rest) (q : Br rest facts) : St (en (own ++ facts) (Or2 (Or2 I E.B) (SF rest)) I h) (own ++ facts) I h ∧
    ∀ {L1 L2 : List Rs} {I' : Gh} {h' : Heap}, St (en (own ++ facts) (Or2 (Or2 I E.B) (SF rest)) I h) L1 I' h' → Cat L1 rest L2 → L1.all Rs.bi = true → St E L2 I' h' := by
  have e := t.eq
  subst e
  obtain ⟨s1, s2, s3⟩ := sep_split hs.sep
  have hfn := q.nof
  have hM : ∀ b, SF (own ++ facts) b → SF own b := fun b x => ((sf_app _ _ b).1 x).resolve_right (hfn b)
  have hnB : ∀ b, SF (own ++ facts) b → ¬ Or2 (Or2 I E.B) (SF rest) b := by
    rintro b x ((y | y) | y)
    · exact (s1.lt b (hM b x)).2 y
    · exact hs.notB b ((sf_app _ _ b).2 (.inl (hM b x))) y
    · exact s3 b (hM b x) y
  have s1' : Sep (Or2 (Or2 I E.B) (SF rest)) I h own := s1.bup (fun b x => .inr (.inl (.inr x)))
  constructor
  · exact ⟨Pst.refl hs.bd, fun b x => x.elim (fun y => y.elim (hs.bd b) (hs.bdB b)) (fun y => (s2.lt b y).1), hnB, sep_app s1' (q.sep s2) (fun b _ y => hfn b y), fun b x => .inl x⟩
  · intro L1 L2 I' h' hs' ct hb
    have e := ct.eq
    subst e
    have p := hs'.pst
    have hk : ∀ b, Or2 (Or2 I E.B) (SF rest) b → b < h.size → h'[b]? = h[b]? := fun b x hl => p.keep b hl (fun y => hnB b y x)
    have hnw : ∀ b, SF L1 b → SF own b ∨ h.size ≤ b := fun b x => (hs'.nw b x).imp (hM b) id
    have s2' : Sep E.B I' h' rest := by
      refine s2.mono (p.up hs.bd (fun b y => (s1.lt b (hM b y)).2)) (fun b x => hk b (.inl (.inr x)) (hs.bdB b x)) (fun b x => ⟨hk b (.inr x) (s2.lt b x).1, fun y => ?_⟩) p.size
      rcases p.new b y with y | y | y
      · exact (s2.lt b x).2 y
      · exact s3 b (hM b y) x
      · have := (s2.lt b x).1
        exact absurd y (by show ¬ h.size ≤ b; omega)
    refine ⟨hs.pst.own p (fun b x => hs.nw b ((sf_app _ _ b).2 (.inl (hM b x)))), hs.bB, hs.mB, sep_app (hs'.sep.bmono hb) s2' (fun b x y => ?_), fun b x => ?_⟩
    · rcases hnw b x with z | z
      · exact s3 b z y
      · have := (s2.lt b y).1; omega
    · rcases (sf_app _ _ b).1 x with x | x
      · rcases hnw b x with z | z
        · exact hs.nw b ((sf_app _ _ b).2 (.inl z))
        · exact .inr (Nat.le_trans hs.pst.size z)
      · exact hs.nw b ((sf_app _ _ b).2 (.inr x))
end
end Go.Proofs.YtjkbhpokboolpaaGreatDoor.Sx
