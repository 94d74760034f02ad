import Derived.Test.YtjkbhpokboolpaaGreatDoorProg
import Derived.Test.YtjkbhpokboolpaaGreatDoorSx6
import Derived.Stop.Asserts
namespace Go.Proofs.YtjkbhpokboolpaaGreatDoor.Sx
open Go
def ev1 (P : Program) (v : Value) {α : Type} : Sem α → Option (Addr × α)
  | .load _ a k => (pureRun P (k v)).map fun x => (a, x)
  | .program k => ev1 P v (k P)
  | .mark _ k => ev1 P v k
  | _ => none
def ev2 (P : Program) {α : Type} : Sem α → Option (Addr × Value × α)
  | .store _ a v k => (pureRun P k).map fun x => (a, v, x)
  | .program k => ev2 P (k P)
  | .mark _ k => ev2 P k
  | _ => none
def ev3 (P : Program) (v : Value) {α : Type} : Sem α → Option (Addr × Addr × Value × α)
  | .load _ a k => (ev2 P (k v)).map fun x => (a, x)
  | .program k => ev3 P v (k P)
  | .mark _ k => ev3 P v k
  | _ => none
theorem ev1_run {P : Program} {v : Value} {α : Type} {s : Sem α} {a : Addr} {x : α} (h : ev1 P v s = some (a, x)) {w : World} (hc : w.cell? a = some v) : s.run P w = .ok x w := by
  induction s with
  | load m b k ih =>
    simp only [ev1] at h
    cases hp : pureRun P (k v) with
    | none => rw [hp] at h; cases h
    | some y =>
      rw [hp] at h
      simp only [Option.map_some, Option.some.injEq, Prod.mk.injEq] at h
      obtain ⟨rfl, rfl⟩ := h
      simp only [Sem.run, hc]
      exact pureRun_run hp w
  | program k ih => simp only [ev1] at h; simp only [Sem.run]; exact ih P h
  | mark m k ih => simp only [ev1] at h; simp only [Sem.run]; exact ih h
  | _ => simp only [ev1] at h; cases h
theorem ev2_run {P : Program} {α : Type} {s : Sem α} {a : Addr} {v : Value} {x : α} (h : ev2 P s = some (a, v, x)) {w : World} {old : Value} (ho : v.oneCell' = true) (hc : w.cell? a = some old) (hf : w.frozen? a = false) :
    s.run P w = .ok x (w.setCell a v) := by
  induction s with
  | store m b u k ih =>
    simp only [ev2] at h
    cases hp : pureRun P k with
    | none => rw [hp] at h; cases h
    | some y =>
      rw [hp] at h
      simp only [Option.map_some, Option.some.injEq, Prod.mk.injEq] at h
      obtain ⟨rfl, rfl, rfl⟩ := h
      cases u <;> first
        | (cases ho; done)
        | (simp only [Sem.run, hc, hf]; exact pureRun_run hp _)
  | program k ih => simp only [ev2] at h; simp only [Sem.run]; exact ih P h
  | mark m k ih => simp only [ev2] at h; simp only [Sem.run]; exact ih h
  | _ => simp only [ev2] at h; cases h
theorem ev3_run {P : Program} {v : Value} {α : Type} {s : Sem α} {a b : Addr} {u : Value} {x : α} (h : ev3 P v s = some (a, b, u, x)) {w : World} {old : Value} (ho : u.oneCell' = true) (hc : w.cell? a = some v) (hd : w.cell? b = some old) (hf : w.frozen? b = false) :
    s.run P w = .ok x (w.setCell b u) := by
  induction s with
  | load m c k ih =>
    simp only [ev3] at h
    cases hp : ev2 P (k v) with
    | none => rw [hp] at h; cases h
    | some y =>
      rw [hp] at h
      simp only [Option.map_some, Option.some.injEq, Prod.mk.injEq] at h
      obtain ⟨rfl, rfl⟩ := h
      simp only [Sem.run, hc]
      exact ev2_run hp ho hd hf
  | program k ih => simp only [ev3] at h; simp only [Sem.run]; exact ih P h
  | mark m k ih => simp only [ev3] at h; simp only [Sem.run]; exact ih h
  | _ => simp only [ev3] at h; cases h
section
variable {P : Program} {N : Nat} {ρ : Env} {h : Heap} {K : Env → Heap → Prop}
theorem cell_own {I : Gh} {b : Nat} {v : Value} {T : TypeId} {w : World} (o : OwnB I w.heap b [v] T) : w.cell? ⟨b, 0, none⟩ = some v := by
  unfold World.cell?; simp only; rw [o.at_]; rfl
theorem owp_ev1 {o : Oper} {v u : Value} {a : Addr} (hr : ev1 P v (execOp (ev N ρ) o) = some (a, .value u)) (hc : cellAt h (some ⟨a.block, a.off, none⟩) 0 = some v) (ha : a.spot = none)
    (k : K (put N ρ o.dst u) h) : owp P N o ρ h K :=
  owp_val (fun w hw => ⟨w, ev1_run hr (by
    obtain ⟨b, off, sp⟩ := a
    cases ha
    subst hw
    exact cell_of hc), Same.refl w, hw⟩) k
theorem owp_ev3 {I : Gh} {o : Oper} {v u r old : Value} {b c : Nat} {T : TypeId} (hB : Bd I h) (hr : ev3 P v (execOp (ev N ρ) o) = some (⟨c, 0, none⟩, ⟨b, 0, none⟩, u, .value r)) (ho : u.oneCell' = true)
    (hc : cellAt h (some ⟨c, 0, none⟩) 0 = some v) (ob : OwnB I h b [old] T) (k : ∀ h', Pst (One b) I h I h' → OwnB I h' b [u] T → K (put N ρ o.dst r) h') : owp P N o ρ h K := by
  intro w a ha hh K' hK
  subst hh
  have hf : w.frozen? ⟨b, 0, none⟩ = false := by unfold World.frozen?; simp only; rw [ob.at_]; rfl
  have := ev3_run hr ho (cell_of (n := 0) hc) (cell_own ob) hf
  unfold xwp
  rw [ha.eval, this]
  have hb : (w.setCell ⟨b, 0, none⟩ u).heap[b]? = some (.cells [u].toArray T (0, 0)) := by
    simp only [World.setCell, Array.getElem?_modify, if_pos, ob.at_]
    rfl
  refine hK _ _ _ (ha.put _ _) (put_defers _ _ _) ⟨rfl, rfl, rfl⟩ (k _ ⟨fun _ x => x, fun _ x => .inl x, fun x hx => ?_, ?_, fun x _ hm => ?_, fun x hx o e => ?_⟩ ⟨hb, ob.no⟩)
  · have := hB x hx; simpa [World.setCell] using this
  · simp [World.setCell]
  · simp only [World.setCell, Array.getElem?_modify]
    rw [if_neg (fun e => hm e.symm)]
  · by_cases hxb : x = b
    · subst hxb
      rw [hb] at e
      obtain rfl := Option.some.inj e
      exact fun _ _ y => Nat.not_lt_zero _ y.2
    · simp only [World.setCell, Array.getElem?_modify] at e
      rw [if_neg (fun e => hxb e.symm)] at e
      exact un_refl x hx o e
end
def lackB (P : Program) (t asserted : TypeId) : Option Bool :=
  match P.underlying asserted with
  | some (.interface want) => (P.info? t).map (fun i => (lacking want i.methods).isEmpty)
  | _ => none
theorem owp_lacks {P : Program} {N : Nat} {ρ : Env} {h : Heap} {K : Env → Heap → Prop} {dst : Option Tmp} {ty : TypeId} {pos : String} {aft : Array Edge} {g : Option (Nat × Bool)} {x : Operand} {t xT asserted : TypeId} {u z : Value}
    (hx : ev N ρ x = .iface t u) (hl : lackB P t asserted = some false)
    (hz : (P.info? asserted).map (·.zero) = some (some z)) (k : K (put N ρ dst (.tuple #[z, .bool false])) h) : owp P N ⟨dst, .typeAssert x xT asserted true, ty, pos, aft, g⟩ ρ h K := by
  unfold lackB at hl
  split at hl
  · rename_i want hu
    exact owp_val (fun w hw => ⟨w, by simp only [execOp, hx]; simp [run_typeAssert_lacksB hu hl hz], Same.refl w, hw⟩) k
  · cases hl
def Glob (I : Gh) (h : Heap) : Prop := I 0 ∧ cellAt h (some ⟨0, 0, none⟩) 0 = some (.iface 289 (.agg #[.pointer (some ⟨1, 36, none⟩)]))
theorem Glob.up {I I' : Gh} {h h' : Heap} (u : Up I h I' h') (g : Glob I h) : Glob I' h' :=
  ⟨u.sub 0 g.1, by
    have := g.2
    unfold cellAt at *
    simp only at this ⊢
    rw [u.keep 0 g.1]
    exact this⟩
def code? : GoErr → Option Int
  | .nil => none
  | .no n => some n
  | .spot _ e => code? e
def hnd (t : TypeId) : Value := .agg #[.pointer (some ⟨1, t, none⟩)]
def rval (t b f : Nat) : List Value := [.pointer (some ⟨1, t, none⟩), .pointer (some ⟨b, 0, none⟩), .int .u64 f]
theorem unwrap_calls {h : Heap} {a : Int} {b : Nat} {v : Value} {fr : Nat × Nat} (hc : h[b]? = some (.cells [.int .i64 a, v].toArray 204 fr)) :
    Ret Tryz.prog 337 #[.pointer (some ⟨b, 0, none⟩)] h (fun r h' => v = r ∧ h = h') := by
  have h1 : cellAt h (some ⟨b, 0, none⟩) 1 = some v := by unfold cellAt; simp only; rw [hc]; rfl
  refine ret_of (args := [.pointer (some ⟨b, 0, none⟩)]) (rs := [.tmp 2]) (N := 7) Tryz.func337 rfl rfl rfl (Nat.le_of_ble_eq_true rfl) ?_
  refine cwp_seq ?_
  refine cwp_region ?_
  refine lwp_run 1 (by kernel_rfl) ?_
  refine lwp_nil ?_
  refine cwp_seq ?_
  refine cwp_region ?_
  refine lwp_run 3 (by kernel_rfl) ?_
  refine lwp_op (by kernel_rfl) (owp_load (a := some ⟨b, 0, none⟩) (n := 1) (v := v) (by kernel_rfl) (by kernel_rfl) h1 ?_)
  refine lwp_run 1 (by kernel_rfl) ?_
  refine lwp_nil ?_
  refine cwp_ret ?_
  exact ⟨_, by kernel_rfl, rfl, rfl⟩
def depth : GoErr → Nat
  | .spot _ e => depth e + 1
  | _ => 0
end Go.Proofs.YtjkbhpokboolpaaGreatDoor.Sx
