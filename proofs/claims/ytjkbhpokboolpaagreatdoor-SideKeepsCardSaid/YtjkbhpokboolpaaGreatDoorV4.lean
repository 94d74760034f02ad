import Derived.Test.YtjkbhpokboolpaaGreatDoorV3
import Derived.Test.YtjkbhpokboolpaaGreatDoorSx9
namespace Go.Proofs.YtjkbhpokboolpaaGreatDoor.Sx
open Go
def rG : Rs := ⟨No, fun _ I h => Glob I h, fun u _ _ g => g.up u, fun _ g => g, true, fun _ => fun g => g⟩
theorem gK {R R' : List Rs} (d : Del R rG R') : Br1 R rG := ⟨noF, fun s => (d.sep s).1.1⟩
theorem Code_fc {B I : Gh} {h : Heap} {x0 : GoErr} {v1 : Value} {r : Int} (H : codeOf x0 = r) : Fc Tryz.prog 21 #[v1] [rE .b v1 x0, rG] B I h (fun v L => v = .int .i64 r ∧ L = []) := by
  subst H
  intro hs
  have hE : ErrV ((Cl.b).G B I) h x0 v1 := hs.g d0
  have hG : Glob I h := hs.g d1
  have hb : Bd ((Cl.b).G B I) h := hs.bdG (k := .b)
  refine (Code_calls hb (hG.up (up_sub fun b x => .inl x)) hE).mono ?_
  rintro v h' ⟨I', rfl, p⟩
  exact ⟨I, [], ⟨rfl, rfl⟩, (hs.pk .n).grow ⟨fun _ x => x, fun _ x => .inl x, fun b x => Nat.lt_of_lt_of_le (hs.bd b x) p.size, p.size, p.keep, p.un⟩⟩
end Go.Proofs.YtjkbhpokboolpaaGreatDoor.Sx
