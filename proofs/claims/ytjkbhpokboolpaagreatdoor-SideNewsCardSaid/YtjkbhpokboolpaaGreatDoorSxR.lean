import Derived.Test.YtjkbhpokboolpaaGreatDoorSx6
import Derived.ChangeStays
import Derived.ChangeBears2
import Derived.ChangeSlices
import Derived.ChangeArms
import Derived.WideShapes
import Derived.ChangeSame
import Derived.OpenShut
import Derived.RowKit
namespace Go.Proofs.YtjkbhpokboolpaaGreatDoor.Sx
open Go Go.ChangeShapes Go.WideShapes Go.RowKit
def I0 (w : World) : Gh := fun b => b < w.heap.size
theorem bd_I0 (w : World) : Bd (I0 w) w.heap := fun _ x => x
structure Elt {α : Type} (P : Program) (T : Ty α) (t : TypeId) (ok : α → Prop) : Prop where
  cells : P.cellsOf t = T.size
  pos : 0 < T.size
  open_ : ∀ {H : Type} {enc : TypeId × Value → H} {w : World} {base : Nat} {sp : Nat → Bool} {held : Bool} {fuel : Nat} {cs : List Value} {x : DataW H × List MemPlace},
    (∀ b, sp b = true) → DataW.trod enc P w base sp held fuel t cs = some x → ∃ y, T.rep (I0 w) w.heap cs y ∧ ok y
def Wf (k : IntKind) (n : Int) : Prop := (Lit.int k n).wf = true
section
variable {H : Type} {enc : TypeId × Value → H} {P : Program} {W : World} {α : Type} {T : Ty α} {ok : α → Prop} {base : Nat}
end
theorem grown_of {I I' : Gh} {W W' : World} (p : Pst No I W.heap I' W'.heap) (s : Same W W') : W.keptBut W' (fun _ => False) ∧ W.heap.size ≤ W'.heap.size := by
  refine ⟨⟨s.os, s.output, fun i hi => ?_⟩, p.size⟩
  have h := p.keep i hi (fun x => x)
  rw [h]
  have : W.heap[i]? = some W.heap[i] := Array.getElem?_eq_getElem hi
  rw [this]
  cases W.heap[i] with
  | cells c t fr => exact ⟨rfl, rfl, rfl, fun _ _ => rfl⟩
  | map es clock => exact .inr ⟨rfl, rfl⟩
  | _ => rfl
theorem sameAt_of {I I' : Gh} {W W' : World} (p : Pst No I W.heap I' W'.heap) {q : MemPlace} (h : q.block < W.heap.size) : W.sameAt W' q := by
  have e := p.keep q.block h (fun x => x)
  cases q with
  | cell b off =>
    show W'.cell? _ = W.cell? _
    unfold World.cell?
    have e' : W'.heap[b]? = W.heap[b]? := e
    simp only [e']
  | map b => exact e
section
variable {H : Type} {enc : TypeId × Value → H} {P : Program} {W W' : World}
theorem args_stay {I I' : Gh} (hl : laidOutB P = true) (hm : mapsRowed P = true) (hsz : (List.range P.types.size).all (fun t => match P.underlying t with | some (.slice e) => Nat.blt 0 (P.cellsOf e) | _ => true) = true)
    (p : Pst No I W.heap I' W'.heap) : ∀ {ts : List TypeId} {vs : List Value} {ds : List (DataW H)} {ps : List MemPlace}, (∀ t ∈ ts, t < P.types.size) → DataW.TrodAll enc P W 0 (fun _ => true) true ts vs ds ps →
      DataW.TrodAll enc P W' 0 (fun b => decide (b < W.heap.size)) true ts vs ds ps
  | [], [], [], _, _, h => h
  | t :: ts, v :: vs, d :: ds, _, ht, ⟨p1, p2, ⟨fuel, h1⟩, h2, e⟩ => by
    refine ⟨p1, p2, ⟨fuel, ?_⟩, args_stay hl hm hsz p (fun u hu => ht u (List.mem_cons_of_mem _ hu)) h2, e⟩
    have hlt := DataW.trod_lt _ _ _ _ h1
    refine DataW.trod_stays (T := (· < P.types.size)) (kids_rows hl hm) (fun {t e} h hu => ?_) (fun h => by cases h) (ht t (List.mem_cons_self ..)) h1 (fun q hq => sameAt_of p (hlt q hq)) (fun q hq => by simpa using hlt q hq)
    have := List.all_eq_true.1 hsz t (List.mem_range.2 h)
    rw [hu] at this
    simpa [Nat.blt_eq] using this
theorem post_true {I I' : Gh} {f : Func} {s : ChangeSpec} {args : Array Value} {ds gs : List (DataW H)} {before : List MemPlace} {tb : TypeId} {apart : Bool} (hl : laidOutB P = true) (hm : mapsRowed P = true)
    (hsz : (List.range P.types.size).all (fun t => match P.underlying t with | some (.slice e) => Nat.blt 0 (P.cellsOf e) | _ => true) = true) (hts : ∀ t ∈ f.params.toList, t < P.types.size)
    (hrt : f.resultTypes = #[tb]) (htb : P.underlying tb = some .bool) (hvars : s.vars = [])
    (hW : DataW.Whole enc P f.params.toList s.vars apart W args.toList ds gs before) (hfn : s.fn H (ds ++ gs) = { results := [.lit (.bool true)], args := ds })
    (p : Pst No I W.heap I' W'.heap) (hs : Same W W') : s.post enc P f apart true false false W args (.bool true) W' := by
  have hW' := hW
  obtain ⟨p1, q1, hA, hV, hps, _, _⟩ := hW
  refine ⟨ds, gs, before, [], p1, [], hW', ?_, ?_, ?_, World.keptBut_mono (fun _ f => f.elim) (grown_of p hs).1, fun h => by cases h⟩
  · rw [hfn, hrt]
    exact trodAll_mk1 (shut_bool htb true)
  · rw [hfn]
    exact args_stay hl hm hsz p hts hA
  · rw [hfn, hvars]; exact rfl
end
end Go.Proofs.YtjkbhpokboolpaaGreatDoor.Sx
