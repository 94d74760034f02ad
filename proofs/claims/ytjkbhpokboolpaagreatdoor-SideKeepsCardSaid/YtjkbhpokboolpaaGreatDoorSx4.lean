import Derived.Test.YtjkbhpokboolpaaGreatDoorSx3
namespace Go.Proofs.YtjkbhpokboolpaaGreatDoor.Sx
open Go
inductive GoErr where
  | nil
  | no (n : Int)
  | spot (at_ : Int) (e : GoErr)
  deriving DecidableEq, Inhabited
def ErrV (I : Gh) (h : Heap) : GoErr → Value → Prop
  | .nil, v => v = .nilIface
  | .no n, v => v = .iface 137 (.int .i64 n)
  | .spot a e, v => ∃ b v' fr, v = .iface 202 (.pointer (some ⟨b, 0, none⟩)) ∧ I b ∧ h[b]? = some (.cells [.int .i64 a, v'].toArray 204 fr) ∧ ErrV I h e v'
theorem ErrV.up {I I' : Gh} {h h' : Heap} (u : Up I h I' h') : ∀ {e : GoErr} {v : Value}, ErrV I h e v → ErrV I' h' e v
  | .nil, _, q => q
  | .no _, _, q => q
  | .spot _ _, _, ⟨b, v', fr, e1, hb, hc, q⟩ => ⟨b, v', fr, e1, u.sub b hb, (u.keep b hb).trans hc, q.up u⟩
theorem ErrV.cases {I : Gh} {h : Heap} {e : GoErr} {v : Value} (q : ErrV I h e v) : (e = .nil ∧ v = .nilIface) ∨ (e ≠ .nil ∧ ∃ t u, v = .iface t u) := by
  cases e with
  | nil => exact .inl ⟨rfl, q⟩
  | no n => exact .inr ⟨by simp, _, _, q⟩
  | spot a e => obtain ⟨b, v', fr, e1, _⟩ := q; exact .inr ⟨by simp, _, _, e1⟩
theorem ErrV.one {I : Gh} {h : Heap} {e : GoErr} {v : Value} (q : ErrV I h e v) : v.oneCell' = true := by
  rcases q.cases with ⟨_, rfl⟩ | ⟨_, t, u, rfl⟩ <;> rfl
def tErr : Ty GoErr where
  size := 1
  rep I h cs x := ∃ v, cs = [v] ∧ ErrV I h x v
  len := by rintro _ _ _ _ ⟨_, rfl, _⟩; rfl
  one := by rintro _ _ _ _ ⟨w, rfl, q⟩ v hv; simp at hv; subst hv; exact q.one
  up := by rintro _ _ _ _ _ _ u ⟨v, rfl, q⟩; exact ⟨v, rfl, q.up u⟩
def Fits : Env → Env → Prop
  | [], _ => True
  | p :: L, ρ => get ρ p.1 = p.2 ∧ Fits L ρ
theorem Fits.all {L ρ : Env} (h : Fits L ρ) : ∀ p ∈ L, get ρ p.1 = p.2 := by
  induction L with
  | nil => intro p hp; cases hp
  | cons q L ih => intro p hp; cases hp with
    | head => exact h.1
    | tail _ hp => exact ih h.2 p hp
theorem guard_pos {c : Prop} [Decidable c] {α : Type} {x : Option α} {r : α} (h : (if c then x else none) = some r) : c ∧ x = some r := by
  by_cases hc : c
  · rw [if_pos hc] at h; exact ⟨hc, h⟩
  · rw [if_neg hc] at h; cases h
theorem bind_some {α β : Type} {x : Option α} {f : α → Option β} {r : β} (h : x.bind f = some r) : ∃ t, x = some t ∧ f t = some r := by
  cases x with
  | none => cases h
  | some t => exact ⟨t, rfl, h⟩
section
variable {P : Program} {N : Nat} {Q : Post} {ρ : Env} {h : Heap} {K : Env → Heap → Prop}
theorem pr_bool {s : Sem Next} {b c : Bool} (hr : pureRun P s = some (.value (.bool b))) (hb : b = c) : pureRun P s = some (.value (.bool c)) := hb ▸ hr
theorem cwp_fits {c : Code} (L : Env) (hL : Fits L ρ) (k : cwp P N c Q (L ++ ρ) h) : cwp P N c Q ρ h := cwp_rebase L hL.all k
end
theorem neT {x y : Int} (h : ¬ x = y) : (x != y) = true := by simpa using h
theorem neF {x y : Int} (h : x = y) : (x != y) = false := by simpa using h
theorem notB {b c : Bool} (h : b = c) : (!b) = !c := by rw [h]
abbrev w64 (n : Int) : Int := IntKind.i64.wrap n
abbrev w8 (n : Int) : Int := IntKind.u8.wrap n
def bAnd (k : IntKind) (x y : Int) : Int := k.wrap (BitVec.ofInt k.bits x &&& BitVec.ofInt k.bits y).toNat
def bOr (k : IntKind) (x y : Int) : Int := k.wrap (BitVec.ofInt k.bits x ||| BitVec.ofInt k.bits y).toNat
def bXor (k : IntKind) (x y : Int) : Int := k.wrap (BitVec.ofInt k.bits x ^^^ BitVec.ofInt k.bits y).toNat
def bAndNot (k : IntKind) (x y : Int) : Int := k.wrap (BitVec.ofInt k.bits x &&& ~~~ BitVec.ofInt k.bits y).toNat
def shl (k : IntKind) (x y : Int) : Int := k.wrap (x * 2 ^ (min y.toNat k.bits))
def shr (k : IntKind) (x y : Int) : Int := x.fdiv (2 ^ (min y.toNat k.bits))
def sub {α : Type} (l : List α) (lo hi : Int) : List α := (l.drop lo.toNat).take (hi.toNat - lo.toNat)
def Lim : Nat := 1099511627776
def app {α : Type} (l m : List α) : Option (List α) := if l.length + m.length ≤ Lim then some (l ++ m) else none
theorem app_some {α : Type} {l m r : List α} (h : app l m = some r) : l.length + m.length ≤ Lim ∧ r = l ++ m := by
  unfold app at h
  have := guard_pos h
  exact ⟨this.1, (Option.some.inj this.2).symm⟩
end Go.Proofs.YtjkbhpokboolpaaGreatDoor.Sx
