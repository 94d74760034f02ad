import Derived.Test.YtfkdbplnjlkcdaaGreatDoorV4
import Derived.Test.YtfkdbplnjlkcdaaGreatDoorSxF
namespace Go.Proofs.YtfkdbplnjlkcdaaGreatDoor.Sx
open Go
theorem flat_fc {B I : Gh} {h : Heap} {x0 : GoErr} {v1 : Value} {r : GoErr}
    (hs : ∀ {J : Gh} {k : Heap} {a : Int} {x : GoErr} {v : Value}, Bd J k → ErrV J k x v → Ret Tryz.prog 28 #[.int .i64 a, v] k (fun r k' => ∃ J', ErrV J' k' (.spot a x) r ∧ Pst No J k J' k'))
    (H : flatOf x0 = r) : Fc Tryz.prog 35 #[v1] [rE .i v1 x0, rG] B I h (fun v L => ∃ w : Value, v = w ∧ L = [rE .i w r]) := by
  subst H
  intro st
  have hE : ErrV I h x0 v1 := st.g d0
  have hG : Glob I h := st.g d1
  refine (flat_calls st.bd hG hE hs).mono ?_
  rintro v h' ⟨I', e, p⟩
  exact ⟨I', _, ⟨v, rfl, rfl⟩, ((st.pk .n).grow p).pE (k := .i) e⟩
theorem spot_ret {P : Program} {f : FuncId} {J : Gh} {k : Heap} {a : Int} {x : GoErr} {v : Value} (hJ : Bd J k) (q : ErrV J k x v)
    (c : Fc P f #[.int .i64 a, v] [rE .i v x] No J k (fun v L => ∃ w : Value, v = w ∧ L = [rE .i w (.spot a x)])) : Ret P f #[.int .i64 a, v] k (fun r k' => ∃ J', ErrV J' k' (.spot a x) r ∧ Pst No J k J' k') := by
  refine (c ⟨Pst.refl hJ, fun _ x => x.elim, fun _ _ x => x, ⟨⟨q, fun b x => x.elim, fun b x => x.elim⟩, trivial⟩, fun _ x => .inl x⟩).mono ?_
  rintro r k' ⟨J', _, ⟨w, rfl, rfl⟩, h2⟩
  exact ⟨J', h2.g d0, h2.pst.weaken fun b x => .inl (x.elim id id)⟩
end Go.Proofs.YtfkdbplnjlkcdaaGreatDoor.Sx
