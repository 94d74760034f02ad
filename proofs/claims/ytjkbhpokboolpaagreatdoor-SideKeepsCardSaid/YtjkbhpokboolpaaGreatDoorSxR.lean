import Derived.Test.YtjkbhpokboolpaaGreatDoorSx6
import Derived.ChangeStays
import Derived.ChangeBears2
import Derived.ChangeSlices
import Derived.ChangeArms
import Derived.WideShapes
import Derived.ChangeSame
import Derived.OpenShut
import Derived.RowKit
namespace Go.Proofs.YtjkbhpokboolpaaGreatDoor.Sx
open Go Go.ChangeShapes Go.WideShapes Go.RowKit
def I0 (w : World) : Gh := fun b => b < w.heap.size
theorem bd_I0 (w : World) : Bd (I0 w) w.heap := fun _ x => x
structure Elt {α : Type} (P : Program) (T : Ty α) (t : TypeId) (ok : α → Prop) : Prop where
  cells : P.cellsOf t = T.size
  pos : 0 < T.size
  open_ : ∀ {H : Type} {enc : TypeId × Value → H} {w : World} {base : Nat} {sp : Nat → Bool} {held : Bool} {fuel : Nat} {cs : List Value} {x : DataW H × List MemPlace},
    (∀ b, sp b = true) → DataW.trod enc P w base sp held fuel t cs = some x → ∃ y, T.rep (I0 w) w.heap cs y ∧ ok y
def Wf (k : IntKind) (n : Int) : Prop := (Lit.int k n).wf = true
theorem elt_int {P : Program} {t : TypeId} {k : IntKind} (ht : P.underlying t = some (.int k)) (hc : P.cellsOf t = 1) : Elt P (tInt k) t (Wf k) where
  cells := hc
  pos := Nat.one_pos
  open_ _ h := by
    obtain ⟨n, rfl, _, hw⟩ := DataW.trod_int ht h
    exact ⟨n, rfl, hw⟩
theorem list_of_len {α : Type} {l : List α} {n : Nat} (h : l.length = n + 1) : ∃ a r, l = a :: r ∧ r.length = n := by
  cases l with
  | nil => cases h
  | cons a r => exact ⟨a, r, rfl, Nat.succ.inj h⟩
theorem list_of_len0 {α : Type} {l : List α} (h : l.length = 0) : l = [] := List.eq_nil_of_length_eq_zero h
section
variable {H : Type} {enc : TypeId × Value → H} {P : Program} {W : World} {α : Type} {T : Ty α} {ok : α → Prop} {base : Nat}
theorem cells_seg {w : World} {a : Addr} {n : Nat} {cs : List Value} {c : Array Value} {t : TypeId} {fr : Nat × Nat} (hs : a.spot = none) (hb : w.heap[a.block]? = some (.cells c t fr)) (hn : 0 < n)
    (h : w.cells? base a n = some cs) : seg c a.off n = cs ∧ a.off + n ≤ c.size := by
  obtain ⟨_, hl, hi⟩ := World.cells?_some h
  obtain ⟨b, o, sp⟩ := a
  obtain rfl : sp = none := hs
  simp only at hb ⊢
  have get : ∀ i, i < n → c[o + i]? = cs[i]? := by
    intro i h'
    have := hi i h'
    rw [Addr.add_lit] at this
    unfold World.cell? at this
    rw [hb] at this
    simpa using this
  have hsz : o + n ≤ c.size := by
    have h1 := get (n - 1) (by omega)
    rw [List.getElem?_eq_getElem (by omega)] at h1
    have := (Array.getElem?_eq_some_iff.1 h1).1
    omega
  refine ⟨?_, hsz⟩
  apply List.ext_getElem?
  intro i
  simp only [seg, List.getElem?_take, List.getElem?_drop]
  split
  · rename_i h'
    have := get i h'
    simpa using this
  · rw [List.getElem?_eq_none (by omega)]
theorem add_spot {a : Addr} (hs : a.spot = none) (n : Nat) : a.add n = ⟨a.block, a.off + n, none⟩ := by
  obtain ⟨b, o, sp⟩ := a
  obtain rfl : sp = none := hs
  exact Addr.add_lit ..
theorem open_cell {t e : TypeId} {sp : Nat → Bool} {held : Bool} {fuel : Nat} {cs : List Value} {x : DataW H × List MemPlace} (E : Elt P T e ok) (ht : P.underlying t = some (.slice e)) (hsp0 : ∀ b, sp b = true)
    (h : DataW.trod enc P W base sp held fuel t cs = some x) : ∃ a cap l, cs = [.slice a l.length cap] ∧ Rd T (I0 W) W.heap a cap l ∧ (∀ x ∈ l, ok x) ∧ cap ≤ maxLen ∧ l.length ≤ cap := by
  rcases DataW.trod_slice ht h with ⟨rfl, _⟩ | ⟨ad, len, cap, elems, rest, n, _, rfl, _, hb, hl, hm, hlen, hel, hsp, _⟩
  · exact ⟨none, 0, [], rfl, rd_nil _ _ _, (by simp), by unfold maxLen; omega, Nat.le_refl _⟩
  · obtain ⟨hrl, hr⟩ := hsp (hsp0 _)
    have each : ∀ i, i < cap → ∃ cs', W.cells? base (ad.add (i * P.cellsOf e)) (P.cellsOf e) = some cs' ∧ ∃ y, T.rep (I0 W) W.heap cs' y ∧ ok y := by
      intro i hi
      have hx : ∃ x, (W.cells? base (ad.add (i * P.cellsOf e)) (P.cellsOf e)).bind (DataW.trod enc P W base sp held n e) = some x := by
        by_cases h' : i < len
        · rw [hel i h']; exact ⟨_, List.getElem?_eq_getElem (by omega)⟩
        · have := hr (i - len) (by omega)
          rw [show len + (i - len) = i by omega] at this
          rw [this]; exact ⟨_, List.getElem?_eq_getElem (by omega)⟩
      obtain ⟨x, hx⟩ := hx
      obtain ⟨cs, hcs, hy⟩ := Option.bind_eq_some_iff.1 hx
      exact ⟨cs, hcs, E.open_ hsp0 hy⟩
    rcases Nat.eq_zero_or_pos cap with h0 | h0
    · subst h0
      obtain rfl : len = 0 := by omega
      refine ⟨some ad, 0, [], rfl, ⟨⟨fun e' => (by cases e'), Nat.le_refl _, fun _ _ h => absurd h (Nat.lt_irrefl _)⟩, fun _ _ h => absurd h (Nat.lt_irrefl _)⟩, (by simp), hm, Nat.le_refl _⟩
    · obtain ⟨cs0, hc0, _⟩ := each 0 h0
      rw [E.cells] at each hc0
      rw [Nat.zero_mul] at hc0
      have hp := E.pos
      obtain ⟨_, _, hi0⟩ := World.cells?_some hc0
      have h00 := hi0 0 hp
      have hs : ad.spot = none := by
        have h1 : (ad.add 0).add 0 = ad := by unfold Addr.add; simp
        rw [h1] at h00
        unfold World.cell? at h00
        split at h00
        · split at h00
          · exact absurd h00 (by have : cs0.length = T.size := (World.cells?_some hc0).2.1; rw [List.getElem?_eq_getElem (by omega)]; simp)
          · rename_i hn; simpa using hn
        · exact absurd h00 (by have : cs0.length = T.size := (World.cells?_some hc0).2.1; rw [List.getElem?_eq_getElem (by omega)]; simp)
      obtain ⟨c, row, fr, hbl⟩ : ∃ c row fr, W.heap[ad.block]? = some (.cells c row fr) := by
        have h1 : (ad.add 0).add 0 = ad := by unfold Addr.add; simp
        rw [h1] at h00
        unfold World.cell? at h00
        split at h00
        · rename_i c row fr heq; exact ⟨c, row, fr, heq⟩
        · exact absurd h00 (by have : cs0.length = T.size := (World.cells?_some hc0).2.1; rw [List.getElem?_eq_getElem (by omega)]; simp)
      have each' : ∀ i, i < cap → ∃ y, T.rep (I0 W) W.heap (seg c (ad.off + i * T.size) T.size) y ∧ ok y ∧ ad.off + i * T.size + T.size ≤ c.size := by
        intro i hi
        obtain ⟨cs', hcs, y, hrep, hok⟩ := each i hi
        rw [add_spot hs] at hcs
        obtain ⟨e1, e2⟩ := cells_seg (a := ⟨ad.block, ad.off + i * T.size, none⟩) rfl hbl E.pos hcs
        exact ⟨y, by rw [e1]; exact hrep, hok, e2⟩
      have build : ∀ m, m ≤ len → ∃ l : List α, l.length = m ∧ (∀ x ∈ l, ok x) ∧ ∀ i (hi : i < l.length), T.rep (I0 W) W.heap (seg c (ad.off + i * T.size) T.size) l[i] := by
        intro m
        induction m with
        | zero => intro _; exact ⟨[], rfl, by simp, by simp⟩
        | succ m ih =>
          intro hm'
          obtain ⟨l, h1, h2, h3⟩ := ih (by omega)
          obtain ⟨y, r, o, _⟩ := each' m (by omega)
          refine ⟨l ++ [y], by simp [h1], ?_, fun i hi => ?_⟩
          · intro x hx
            rcases List.mem_append.1 hx with hx | hx
            · exact h2 x hx
            · simp at hx; subst hx; exact o
          · by_cases h' : i < l.length
            · rw [List.getElem_append_left h']; exact h3 i h'
            · have : i = l.length := by simp at hi; omega
              subst this
              rw [List.getElem_append_right (Nat.le_refl _)]
              simp only [Nat.sub_self, List.getElem_cons_zero]
              rw [h1]; exact r
      obtain ⟨l, h1, h2, h3⟩ := build len (Nat.le_refl _)
      refine ⟨some ad, cap, l, by rw [h1], ⟨⟨fun e' => (by cases e'), by omega, ?_⟩, ?_⟩, h2, hm, by omega⟩
      · intro ad' e' _
        obtain rfl := Option.some.inj e'
        refine ⟨hs, c, row, fr, hbl, ?_, h3⟩
        obtain ⟨_, _, _, h⟩ := each' (cap - 1) (by omega)
        have : (cap - 1) * T.size + T.size = cap * T.size := by rw [← Nat.succ_mul]; congr 1; omega
        omega
      · intro ad' e' _
        obtain rfl := Option.some.inj e'
        exact lt_of_some hbl
theorem open_sl {t e : TypeId} {v : Value} {d : DataW H} {ps : List MemPlace} (E : Elt P T e ok) (ht : P.underlying t = some (.slice e)) (hval : Value.okWide P W .any base t v)
    (hd : DataW.Trod enc P W 0 (fun _ => true) true t v d ps) : ∃ a cap l, v = .slice a l.length cap ∧ Rd T (I0 W) W.heap a cap l ∧ (∀ x ∈ l, ok x) ∧ cap ≤ maxLen ∧ l.length ≤ cap := by
  obtain ⟨a, len, cap, rfl⟩ := okWide_slice ht hval
  obtain ⟨fuel, hf⟩ := hd
  obtain ⟨a', cap', l, h1, h2⟩ := open_cell E ht (fun _ => rfl) hf
  have e0 : (Value.slice a len cap).cells.toList = [.slice a len cap] := rfl
  rw [e0] at h1
  simp only [List.cons.injEq, Value.slice.injEq, and_true] at h1
  obtain ⟨rfl, rfl, rfl⟩ := h1
  exact ⟨_, _, l, rfl, h2⟩
theorem open_struct {t : TypeId} {fs : Array Field} {v : Value} {d : DataW H} {ps : List MemPlace} (E : Elt P T t ok) (ht : P.underlying t = some (.struct fs)) (hval : Value.okWide P W .any base t v)
    (hd : DataW.Trod enc P W 0 (fun _ => true) true t v d ps) : ∃ cs x, v = .agg cs ∧ T.rep (I0 W) W.heap cs.toList x ∧ ok x := by
  have hv : ∃ cs, v = .agg cs := by
    unfold Value.okWide at hval
    rw [ht] at hval
    obtain ⟨cs, h1, _⟩ := hval
    exact ⟨cs, h1⟩
  obtain ⟨cs, rfl⟩ := hv
  obtain ⟨fuel, hf⟩ := hd
  obtain ⟨y, h1, h2⟩ := E.open_ (fun _ => rfl) hf
  exact ⟨cs, y, rfl, h1, h2⟩
end
theorem grown_of {I I' : Gh} {W W' : World} (p : Pst No I W.heap I' W'.heap) (s : Same W W') : W.keptBut W' (fun _ => False) ∧ W.heap.size ≤ W'.heap.size := by
  refine ⟨⟨s.os, s.output, fun i hi => ?_⟩, p.size⟩
  have h := p.keep i hi (fun x => x)
  rw [h]
  have : W.heap[i]? = some W.heap[i] := Array.getElem?_eq_getElem hi
  rw [this]
  cases W.heap[i] with
  | cells c t fr => exact ⟨rfl, rfl, rfl, fun _ _ => rfl⟩
  | map es clock => exact .inr ⟨rfl, rfl⟩
  | _ => rfl
theorem sameAt_of {I I' : Gh} {W W' : World} (p : Pst No I W.heap I' W'.heap) {q : MemPlace} (h : q.block < W.heap.size) : W.sameAt W' q := by
  have e := p.keep q.block h (fun x => x)
  cases q with
  | cell b off =>
    show W'.cell? _ = W.cell? _
    unfold World.cell?
    have e' : W'.heap[b]? = W.heap[b]? := e
    simp only [e']
  | map b => exact e
section
variable {H : Type} {enc : TypeId × Value → H} {P : Program} {W W' : World}
theorem args_stay {I I' : Gh} (hl : laidOutB P = true) (hm : mapsRowed P = true) (hsz : (List.range P.types.size).all (fun t => match P.underlying t with | some (.slice e) => Nat.blt 0 (P.cellsOf e) | _ => true) = true)
    (p : Pst No I W.heap I' W'.heap) : ∀ {ts : List TypeId} {vs : List Value} {ds : List (DataW H)} {ps : List MemPlace}, (∀ t ∈ ts, t < P.types.size) → DataW.TrodAll enc P W 0 (fun _ => true) true ts vs ds ps →
      DataW.TrodAll enc P W' 0 (fun b => decide (b < W.heap.size)) true ts vs ds ps
  | [], [], [], _, _, h => h
  | t :: ts, v :: vs, d :: ds, _, ht, ⟨p1, p2, ⟨fuel, h1⟩, h2, e⟩ => by
    refine ⟨p1, p2, ⟨fuel, ?_⟩, args_stay hl hm hsz p (fun u hu => ht u (List.mem_cons_of_mem _ hu)) h2, e⟩
    have hlt := DataW.trod_lt _ _ _ _ h1
    refine DataW.trod_stays (T := (· < P.types.size)) (kids_rows hl hm) (fun {t e} h hu => ?_) (fun h => by cases h) (ht t (List.mem_cons_self ..)) h1 (fun q hq => sameAt_of p (hlt q hq)) (fun q hq => by simpa using hlt q hq)
    have := List.all_eq_true.1 hsz t (List.mem_range.2 h)
    rw [hu] at this
    simpa [Nat.blt_eq] using this
theorem post_true {I I' : Gh} {f : Func} {s : ChangeSpec} {args : Array Value} {ds gs : List (DataW H)} {before : List MemPlace} {tb : TypeId} {apart : Bool} (hl : laidOutB P = true) (hm : mapsRowed P = true)
    (hsz : (List.range P.types.size).all (fun t => match P.underlying t with | some (.slice e) => Nat.blt 0 (P.cellsOf e) | _ => true) = true) (hts : ∀ t ∈ f.params.toList, t < P.types.size)
    (hrt : f.resultTypes = #[tb]) (htb : P.underlying tb = some .bool) (hvars : s.vars = [])
    (hW : DataW.Whole enc P f.params.toList s.vars apart W args.toList ds gs before) (hfn : s.fn H (ds ++ gs) = { results := [.lit (.bool true)], args := ds })
    (p : Pst No I W.heap I' W'.heap) (hs : Same W W') : s.post enc P f apart true false false W args (.bool true) W' := by
  have hW' := hW
  obtain ⟨p1, q1, hA, hV, hps, _, _⟩ := hW
  refine ⟨ds, gs, before, [], p1, [], hW', ?_, ?_, ?_, World.keptBut_mono (fun _ f => f.elim) (grown_of p hs).1, fun h => by cases h⟩
  · rw [hfn, hrt]
    exact trodAll_mk1 (shut_bool htb true)
  · rw [hfn]
    exact args_stay hl hm hsz p hts hA
  · rw [hfn, hvars]; exact rfl
end
end Go.Proofs.YtjkbhpokboolpaaGreatDoor.Sx
