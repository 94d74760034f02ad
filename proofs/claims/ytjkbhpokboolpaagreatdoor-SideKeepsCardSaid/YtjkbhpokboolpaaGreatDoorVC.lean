import Derived.Test.YtjkbhpokboolpaaGreatDoorVD
import Derived.Test.YtjkbhpokboolpaaGreatDoorV6
namespace Go.Proofs.YtjkbhpokboolpaaGreatDoor.Sx
open Go
theorem mn_le {x y : Int} : mn x y ≤ x ∧ mn x y ≤ y ∧ (mn x y = x ∨ mn x y = y) := by unfold mn; split <;> omega
def chE {α : Type} (n : Int) (x : List α) (i : Int) : Int := i + mn n ((x.length : Int) - i)
def chX (n L : Int) : Nat → Int → List Int
  | 0, _ => []
  | k + 1, i => if i < L then i :: chX n L k (i + n) else []
theorem chX_mem {n L : Int} (hn : 1 ≤ n) : ∀ {k : Nat} {i : Int} {pre rest : List Int} {x : Int}, 0 ≤ i → chX n L k i = pre ++ x :: rest → 0 ≤ x ∧ x < L
  | 0, _, pre, rest, x, _, h => by cases pre <;> cases h
  | k + 1, i, pre, rest, x, h0, h => by
    unfold chX at h
    split at h
    · rename_i hl
      cases pre with
      | nil => obtain ⟨rfl, _⟩ := List.cons.inj h; exact ⟨h0, hl⟩
      | cons y pre => exact chX_mem hn (by omega) (List.cons.inj h).2
    · cases pre <;> cases h
theorem chE_mem {α : Type} {n : Int} {x0 : List α} {k : Nat} {pre rest xs : List Int} {x : Int} (hn : 1 ≤ n) (hx : chX n x0.length k 0 = xs) (h : xs = pre ++ x :: rest) : 0 ≤ x ∧ x < chE n x0 x ∧ chE n x0 x ≤ (x0.length : Int) := by
  have := chX_mem hn (Int.le_refl 0) (hx.trans h)
  have := mn_le (x := n) (y := (x0.length : Int) - x)
  unfold chE
  omega
theorem slA_lt {a : Option Addr} {c c' lo sz : Nat} (h : lo < c) (h' : lo < c') : slA a c lo sz = slA a c' lo sz := by
  unfold slA; rw [if_neg (by omega), if_neg (by omega)]
theorem Rd.less {α : Type} {T : Ty α} {I : Gh} {h : Heap} {a : Option Addr} {c c' : Nat} {l : List α} (s : Rd T I h a c l) (h1 : l.length ≤ c') (h2 : c' ≤ c) : Rd T I h a c' l where
  nil e := by obtain ⟨x, y⟩ := s.nil e; exact ⟨x, by omega⟩
  le := h1
  some_ ad e hc := by
    obtain ⟨hs, cs, t, fr, hb, hf, hr⟩ := s.some_ ad e (by omega)
    have : c' * T.size ≤ c * T.size := Nat.mul_le_mul_right _ h2
    exact ⟨hs, cs, t, fr, hb, by omega, hr⟩
  im ad e hc := s.im ad e (by omega)
theorem Rd.part3 {α : Type} {T : Ty α} {I : Gh} {h : Heap} {a : Option Addr} {c : Nat} {l : List α} (s : Rd T I h a c l) {lo hi : Int} (h0 : 0 ≤ lo) (h1 : lo < hi) (h2 : hi ≤ (l.length : Int)) :
    Rd T I h (slA a hi.toNat lo.toNat T.size) (sub l lo hi).length (sub l lo hi) := by
  have hc := s.le
  rw [slA_lt (c' := c) (by omega) (by omega)]
  exact (s.partX h0 (by omega) h2).less (Nat.le_refl _) (by rw [sub_length h2]; omega)
section
variable {α : Type} {T : Ty α} {E : En} {L L' : List Rs} {I : Gh} {h : Heap} {k : Cl} {a : Option Addr} {c n : Nat} {l : List α}
theorem St.part3 (hs : St E L I h) (d : Del L (rR T k a c n l) L') {lo hi : Int} (q : 0 ≤ lo ∧ lo < hi ∧ hi ≤ (l.length : Int)) :
    St E (rR T k (slA a hi.toNat lo.toNat T.size) (sub l lo hi).length (sub l lo hi).length (sub l lo hi) :: L) I h := hs.pR ⟨(hs.rd d).part3 q.1 q.2.1 q.2.2, rfl⟩
end
section
variable {P : Program} {N : Nat} {ρ : Env} {h : Heap} {dst : Option Tmp} {ty : TypeId} {pos : String} {aft : Array Edge} {g : Option (Nat × Bool)}
variable {α : Type} {T : Ty α} {I : Gh} {a : Option Addr} {cap : Nat} {l : List α} {lo hi : Int} {t e : TypeId} {x xl xh xm : Operand} {k1 k2 k3 : IntKind}
theorem pr_slice3 (s : Sl T I h a cap l) (hx : ev N ρ x = .slice a l.length cap) (hl : ev N ρ xl = .int k1 lo) (hh : ev N ρ xh = .int k2 hi) (hm : ev N ρ xm = .int k3 hi)
    (hu : P.underlying t = some (.slice e)) (hsz : pureRun P (sizeOf e) = some T.size) (h0 : 0 ≤ lo) (h1 : lo < hi) (h2 : hi ≤ (l.length : Int)) :
    pureRun P (execOp (ev N ρ) ⟨dst, .slice t x (some xl) (some xh) (some xm), ty, pos, aft, g⟩) = some (.value (.slice (slA a hi.toNat lo.toNat T.size) (sub l lo hi).length (sub l lo hi).length)) := by
  have hc := sl_cap s
  have hs : execOp (ev N ρ) ⟨dst, .slice t x (some xl) (some xh) (some xm), ty, pos, aft, g⟩ = (do pure (Next.value (← Instr.sliceAt t (.slice a l.length cap) (some (.int k1 lo)) (some (.int k2 hi)) (some (.int k3 hi))))) := by
    simp only [execOp, hx, Option.map_some, hl, hh, hm]
  rw [hs, sub_length h2]
  refine (pureRun_bind' (x := .slice (slA a hi.toNat lo.toNat T.size) (hi.toNat - lo.toNat) (hi.toNat - lo.toNat)) ?_).trans rfl
  unfold Instr.sliceAt
  refine (pureRun_bind' (pureRun_underlying hu)).trans ?_
  simp only
  unfold Instr.slice
  refine (pureRun_bind' (pureRun_underlying hu)).trans ?_
  simp only
  refine (pureRun_bind' (x := (lo.toNat, hi.toNat, hi.toNat)) ?_).trans ?_
  · unfold Instr.sliceBounds
    refine (pureRun_bind' (pr_bound (by omega) (by omega))).trans ?_
    refine (pureRun_bind' (pr_bound (by omega) (by omega))).trans ?_
    refine (pureRun_bind' (pr_bound h0 (by omega))).trans ?_
    rfl
  · simp only
    refine (pureRun_bind' hsz).trans ?_
    rfl
end
end Go.Proofs.YtjkbhpokboolpaaGreatDoor.Sx
