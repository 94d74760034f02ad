import Derived.Defers
import Derived.DefersIn
import Derived.Test.YtjkbhpokboolpaaGreatDoorV9
namespace Go.Proofs.YtjkbhpokboolpaaGreatDoor.Sx
open Go
def RetD (P : Program) (f : FuncId) (args : Array Value) (h : Heap) (R : Value → Heap → Prop) : Prop :=
  ∀ (u : FrameMode) (w : World), w.heap = h → CallsD P f args u w fun e u' w' => u' = u ∧ ∃ v, e = .returned v ∧ Same w w' ∧ R v w'.heap
def FcD (P : Program) (f : FuncId) (args : Array Value) (ins : List Rs) (B I : Gh) (h : Heap) (out : Value → List Rs → Prop) : Prop :=
  St (en ins B I h) ins I h → RetD P f args h (fun v h' => ∃ I' L, out v L ∧ St (en ins B I h) L I' h')
def dfOps (fn : Func) : List Oper :=
  match fn.body with
  | some (.seq _ (.seq _ (.block _ (.seq (.block _ (.seq _ (.region _ ops _))) _)))) => ops.toList
  | _ => []
def dfLast : List Oper → Oper
  | [] => ⟨none, .move (.tmp 0), 0, "", #[], none⟩
  | [o] => o
  | _ :: o :: l => dfLast (o :: l)
section
variable {P : Program} {N : Nat} {ρ : Env} {h : Heap}
def noQ : Post := fun _ _ _ => False
def bQ (i3 : Nat) (J1 J2 F : Env → Heap → Prop) : Post
  | .normal, ρ, h => J1 ρ h
  | .exit i, ρ, h => i = i3 ∧ J2 ρ h
  | .ret, ρ, h => F ρ h
def zQ (i0 : Nat) (F : Env → Heap → Prop) : Post
  | .exit i, ρ, h => i = i0 ∧ F ρ h
  | _, _, _ => False
end
end Go.Proofs.YtjkbhpokboolpaaGreatDoor.Sx
