import Derived.Test.YtjkbhpokboolpaaGreatDoorV7
namespace Go.Proofs.YtjkbhpokboolpaaGreatDoor.Sx
open Go
def rX {α : Type} (T : Ty α) (J : Gh) (a : Option Addr) (c n : Nat) (l : List α) : Rs :=
  ⟨Or2 (InA a) J, fun _ _ h => ((Sl T J h a c l ∧ OwS T h a c) ∧ l.length = n) ∧ (∀ b, J b → UnF h b) ∧ ∀ b, InA a b → ¬ J b,
    fun _ _ hF e => ⟨⟨⟨e.1.1.1.up ⟨fun _ x => x, fun b x => hF b (.inr x)⟩ (fun ad q _ => hF _ (.inl ⟨ad, q, rfl⟩)), ⟨fun ad q => by
      obtain ⟨h0, cc, t, h1, h2⟩ := e.1.1.2.ow ad q
      exact ⟨h0, cc, t, (hF _ (.inl ⟨ad, q, rfl⟩)).trans h1, h2⟩⟩⟩, e.1.2⟩, fun b x o q => e.2.1 b x o (by rw [← hF b (.inr x)]; exact q), e.2.2⟩,
    fun _ e => e, true, fun _ _ _ _ _ e => e⟩
inductive AllB : List Rs → Prop where
  | n : AllB []
  | r {α : Type} {T : Ty α} {a : Option Addr} {c n : Nat} {l : List α} {L : List Rs} : AllB L → AllB (rR T .b a c n l :: L)
  | e {v : Value} {x : GoErr} {L : List Rs} : AllB L → AllB (rE .b v x :: L)
theorem AllB.no {I B X : Gh} {h : Heap} {L : List Rs} (a : AllB L) : Sep (Or2 (Or2 I B) X) I h L → Sep (Or2 (Or2 I B) X) No h L := by
  have up : ∀ b, Cl.G .b (Or2 (Or2 I B) X) I b → Cl.G .b (Or2 (Or2 I B) X) No b := fun b x => .inr (x.elim (fun y => .inl (.inl y)) id)
  induction a with
  | n => exact fun _ => trivial
  | r _ ih => exact fun s => ⟨⟨⟨s.1.1.1.mono up, s.1.1.2⟩, fun _ x => x.elim, fun _ x => x.elim⟩, ih s.2⟩
  | e _ ih => exact fun s => ⟨⟨ErrV.up (up_sub up) s.1.1, fun _ x => x.elim, fun _ x => x.elim⟩, ih s.2⟩
section
variable {α : Type} {T : Ty α} {E : En} {L L' facts : List Rs} {I J : Gh} {h : Heap} {a : Option Addr} {c n : Nat} {l : List α}
end
def rP {α : Type} (T : Ty α) (a : Option Addr) (c n : Nat) (l : List α) : Rs :=
  ⟨No, fun B I h => (Sl T I h a c l ∧ ∀ ad, a = some ad → 0 < c → Or2 I B ad.block) ∧ l.length = n,
    fun u hB _ e => ⟨⟨e.1.1.up u (fun ad q z => (e.1.2 ad q z).elim (u.keep _) (hB _)), fun ad q z => (e.1.2 ad q z).imp (u.sub _) id⟩, e.2⟩,
    fun hB e => ⟨⟨e.1.1, fun ad q z => (e.1.2 ad q z).elim .inl (hB _)⟩, e.2⟩, false, fun e => by cases e⟩
section
variable {α : Type} {T : Ty α} {E : En} {L L' R R' : List Rs} {I : Gh} {h : Heap} {a : Option Addr} {c n : Nat} {l : List α}
theorem St.sP (hs : St E L I h) (d : Del L (rP T a c n l) L') : Sn T (Cl.i.G E.B I) h a c n l := ⟨(hs.g d).1.1, (hs.g d).2⟩
theorem St.nP (hs : St E L I h) (d : Del L (rP T a c n l) L') : n = l.length := (hs.g d).2.symm
theorem qMI (d : Del R (rR T .i a c n l) R') : Br1 R (rP T a c n l) := ⟨noF, fun s => ⟨⟨(d.sep s).1.1.1.toSl, fun ad e z => .inl ((d.sep s).1.1.1.im ad e z)⟩, (d.sep s).1.1.2⟩⟩
theorem qMM (d : Del R (rP T a c n l) R') : Br1 R (rP T a c n l) := ⟨noF, fun s => ⟨⟨(d.sep s).1.1.1.1, fun ad e z => ((d.sep s).1.1.1.2 ad e z).elim .inl (fun y => .inr (.inl (.inr y)))⟩, (d.sep s).1.1.2⟩⟩
theorem qMO (d : Del R (rO T .i a c n l) R') : Br1 R (rP T a c n l) := ⟨noF, fun s => ⟨⟨(d.sep s).1.1.1.1, fun ad e _ => .inr (.inr ((d.sf _).2 (.inl ⟨ad, e, rfl⟩)))⟩, (d.sep s).1.1.2⟩⟩
end
structure Chg (h h' : Heap) (b o : Nat) : Prop where
  size : h'.size = h.size
  other : ∀ d, d ≠ b → h'[d]? = h[d]?
  cell : ∃ (c : Array Value) (t : TypeId) (fr : Nat × Nat) (v : Int), o < c.size ∧ h[b]? = some (.cells c t fr) ∧ h'[b]? = some (.cells (c.setIfInBounds o (.int .u8 v)) t fr)
def ShL {α : Type} (R : α → α → Prop) (l l' : List α) : Prop := l.length = l'.length ∧ ∀ i (h1 : i < l.length) (h2 : i < l'.length), R l[i] l'[i]
def Shp {α : Type} (T : Ty α) (R : α → α → Prop) : Prop := ∀ {J : Gh} {h h' : Heap} {b o : Nat} {cs : List Value} {x : α}, Chg h h' b o → T.rep J h cs x → ∃ x', T.rep J h' cs x' ∧ R x' x
theorem ShL.refl {α : Type} {R : α → α → Prop} (hR : ∀ x, R x x) (l : List α) : ShL R l l := ⟨rfl, fun _ _ _ => hR _⟩
theorem ShL.trans {α : Type} {R : α → α → Prop} (hR : ∀ {x y z}, R x y → R y z → R x z) {a b c : List α} (x : ShL R a b) (y : ShL R b c) : ShL R a c :=
  ⟨x.1.trans y.1, fun i h1 h2 => hR (x.2 i h1 (by rw [← x.1]; exact h1)) (y.2 i (by rw [← x.1]; exact h1) h2)⟩
theorem ShL.at_ {α : Type} [Inhabited α] {R : α → α → Prop} {a b : List α} (x : ShL R a b) {i : Int} (h0 : 0 ≤ i) (h1 : i < (a.length : Int)) : R (Sx.at_ a i) (Sx.at_ b i) := by
  have e := x.1
  have ha : i.toNat < a.length := by omega
  have hb : i.toNat < b.length := by omega
  rw [at_eq (hi := ha), at_eq (hi := hb)]
  exact x.2 _ ha hb
section
variable {P : Program} {N : Nat} {ρ : Env} {h : Heap} {K : Env → Heap → Prop}
variable {dst : Option Tmp} {ty : TypeId} {pos : String} {aft : Array Edge} {g : Option (Nat × Bool)}
theorem a_known {P : Program} {N : Nat} {ops : Array Oper} {Q : Post} {S : Heap → Prop} {Lm fuel : Nat} {listed : Array Bool} {ρ : Env} {h : Heap} {d : Option Tmp} {b c : Bool} (e : b = c) (q : awp P N ops Q S Lm fuel listed (put N ρ d (.bool c)) h) : awp P N ops Q S Lm fuel listed (put N ρ d (.bool b)) h := e ▸ q
def mx (x y : Int) : Int := if y > x then y else x
def mn (x y : Int) : Int := if y < x then y else x
def mcase {α β : Type} (o : Option α) (n : Option β) (f : α → Option β) : Option β :=
  match o with
  | none => n
  | some y => f y
theorem mc_n {α β : Type} {o : Option α} {n : Option β} {f : α → Option β} {r : β} (e : o = none) (H : mcase o n f = some r) : n = some r := by subst e; exact H
theorem mc_s {α β : Type} {o : Option α} {n : Option β} {f : α → Option β} {r : β} {y : α} (e : o = some y) (H : mcase o n f = some r) : f y = some r := by subst e; exact H
end
end Go.Proofs.YtjkbhpokboolpaaGreatDoor.Sx
