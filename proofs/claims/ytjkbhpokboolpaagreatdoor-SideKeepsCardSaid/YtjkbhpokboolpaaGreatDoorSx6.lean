import Derived.Test.YtjkbhpokboolpaaGreatDoorSx5
import Derived.Laws.StructEq
namespace Go.Proofs.YtjkbhpokboolpaaGreatDoor.Sx
open Go
def eqFs (rec : TypeId → Value → Value → Option Bool) (P : Program) (xs ys : Array Value) : List Field → Option Bool
  | [] => some true
  | f :: fs =>
    if f.name ≠ "_" then
      match pureRun P (part f.type xs f.offset), pureRun P (part f.type ys f.offset) with
      | some a, some b => match rec f.type a b, eqFs rec P xs ys fs with
        | some r, some s => some (r && s)
        | _, _ => none
      | _, _ => none
    else eqFs rec P xs ys fs
def eqB (P : Program) : Nat → TypeId → Value → Value → Option Bool
  | 0, _, _, _ => none
  | d + 1, t, x, y => match P.underlying t, x, y with
    | some .bool, .bool a, .bool b => some (a == b)
    | some (.int _), .int k a, .int k' b => if k = k' then some (a == b) else none
    | some .string, .string a, .string b => some (a == b)
    | some (.struct _), .agg xs, .agg ys => bif P.stoodInHeld t then none else eqFs (eqB P d) P xs ys (P.fieldsOf t).toList
    | _, _, _ => none
section
variable {P : Program}
theorem eqFs_run {d : Nat} (ih : ∀ {t x y b}, eqB P d t x y = some b → ∀ w, (Op.equalIn d t x y).run P w = .ok b w) {xs ys : Array Value} :
    ∀ {fs : List Field} {b : Bool}, eqFs (eqB P d) P xs ys fs = some b → ∀ w, (Op.eqFields d xs ys fs).run P w = .ok b w := by
  intro fs
  induction fs with
  | nil => intro b h w; obtain rfl := Option.some.inj h; rfl
  | cons f fs ihf =>
    intro b h w
    unfold eqFs at h
    unfold Op.eqFields
    by_cases hn : f.name ≠ "_"
    · rw [if_pos hn] at h ⊢
      split at h
      · rename_i a b' ha hb
        split at h
        · rename_i r s hr hs
          obtain rfl := Option.some.inj h
          simp only [Sem.run_bind, pureRun_run ha w, pureRun_run hb w, ih hr w, Result.andThen_ok]
          cases r
          · simp
          · simp [ihf hs w]
        · cases h
      · cases h
    · rw [if_neg hn] at h ⊢
      exact ihf h w
theorem eqB_run : ∀ {d : Nat} {t : TypeId} {x y : Value} {b : Bool}, eqB P d t x y = some b → ∀ w, (Op.equalIn d t x y).run P w = .ok b w := by
  intro d
  induction d with
  | zero => intro t x y b h; cases h
  | succ d ih =>
    intro t x y b h w
    unfold eqB at h
    split at h
    · rename_i hu; obtain rfl := Option.some.inj h; exact run_equalIn_bool w d t _ _ hu
    · rename_i hu
      split at h
      · rename_i hk; subst hk; obtain rfl := Option.some.inj h; exact run_equalIn_int w d t _ _ _ _ hu
      · cases h
    · rename_i hu; obtain rfl := Option.some.inj h; rw [beq_toListBytes]; exact run_equalIn_string w d t _ _ hu
    · rename_i fs xs ys hu
      cases hs : P.stoodInHeld t with
      | true => rw [hs, cond_true] at h; cases h
      | false =>
        rw [hs, cond_false] at h
        have hf : P.underlying t = some (.struct (P.fieldsOf t)) := by unfold Program.fieldsOf; rw [hu]
        rw [run_equalIn_struct w d t xs ys hf hs]
        exact eqFs_run ih h w
    · cases h
variable {N : Nat} {Q : Post} {ρ : Env} {h : Heap} {ops : Array Oper} {K : Env → Heap → Prop}
variable {dst : Option Tmp} {ty : TypeId} {pos : String} {aft : Array Edge} {g : Option (Nat × Bool)}
theorem run_eqAgg {t yt : TypeId} {x y : Operand} {xs ys : Array Value} {b : Bool} (hx : ev N ρ x = .agg xs) (hy : ev N ρ y = .agg ys) (hm : P.eqGuardType P.depth t = false)
    (he : ∀ w, (Op.equalIn 10000 t (.agg xs) (.agg ys)).run P w = .ok b w) (w : World) : (execOp (ev N ρ) ⟨dst, .binOp .eql t x y yt, ty, pos, aft, g⟩).run P w = .ok (.value (.bool b)) w := by
  have h1 := run_eqGuard_agg (P := P) w .eql t x y xs ys hm
  have h2 := run_eql_struct (P := P) w t xs ys
  simp only [execOp, hx, hy, Sem.run_bind, h1, h2, he w, Result.andThen_ok]
  rfl
theorem run_neAgg {t yt : TypeId} {x y : Operand} {xs ys : Array Value} {b : Bool} (hx : ev N ρ x = .agg xs) (hy : ev N ρ y = .agg ys) (hm : P.eqGuardType P.depth t = false)
    (he : ∀ w, (Op.equalIn 10000 t (.agg xs) (.agg ys)).run P w = .ok b w) (w : World) : (execOp (ev N ρ) ⟨dst, .binOp .neq t x y yt, ty, pos, aft, g⟩).run P w = .ok (.value (.bool (!b))) w := by
  have h1 := run_eqGuard_agg (P := P) w .neq t x y xs ys hm
  have h2 := run_neq_struct (P := P) w t xs ys
  simp only [execOp, hx, hy, Sem.run_bind, h1, h2, he w, Result.andThen_ok]
  rfl
theorem owp_run {o : Oper} (v : Value) (hr : ∀ w, (execOp (ev N ρ) o).run P w = .ok (.value v) w) (k : K (put N ρ o.dst v) h) : owp P N o ρ h K :=
  owp_val (fun w hw => ⟨w, hr w, Same.refl w, hw⟩) k
theorem awp_runv {S : Heap → Prop} {L fuel : Nat} {listed : Array Bool} (i : Nat) {o : Oper} (v : Value) (hi : ops[i]? = some o) (hf : mayTake ops L listed i = true)
    (hw : Region.wanted o (yd N ops ρ) = true) (hr : ∀ w, (execOp (ev N ρ) o).run P w = .ok (.value v) w) (hS : S h)
    (k : awp P N ops Q S L fuel (listed.setIfInBounds i true) (put N ρ o.dst v) h) : awp P N ops Q S L (fuel + 1) listed ρ h :=
  awp_take i hi hf hS (.inl ⟨hw, fun w _ => hr w⟩) k
theorem run_bool {s : Sem Next} {b c : Bool} (hr : ∀ w, s.run P w = .ok (.value (.bool b)) w) (hb : b = c) : ∀ w, s.run P w = .ok (.value (.bool c)) w := hb ▸ hr
end
def tArr (k : IntKind) (n : Nat) : Ty (List Int) where
  size := n
  rep _ _ cs x := x.length = n ∧ cs = x.map (Value.int k)
  len := by rintro _ _ _ _ ⟨rfl, rfl⟩; simp
  one := by rintro _ _ _ _ ⟨rfl, rfl⟩ v hv; simp at hv; obtain ⟨a, _, rfl⟩ := hv; rfl
  up := by intro _ _ _ _ _ _ _ e; exact e
theorem len_set {l : List Int} {n i : Nat} {x : Int} (h : l.length = n) : (l.set i x).length = n := by rw [List.length_set]; exact h
theorem map_at {k : IntKind} {l : List Int} {i : Int} (h0 : 0 ≤ i) (h1 : i < (l.length : Int)) : (l.map (Value.int k))[i.toNat]? = some (.int k (at_ l i)) := by
  have hi : i.toNat < l.length := by omega
  rw [List.getElem?_map, List.getElem?_eq_getElem hi, at_eq (hi := hi)]; rfl
section
variable {P : Program} {N : Nat} {Q : Post} {ρ : Env} {h : Heap} {ops : Array Oper} {K : Env → Heap → Prop} {I : Gh}
variable {dst : Option Tmp} {ty : TypeId} {pos : String} {aft : Array Edge} {g : Option (Nat × Bool)} {k : IntKind} {l : List Int} {b n : Nat} {T : TypeId} {i : Int}
theorem OwnB.arrSeg (o : OwnB I h b (l.map (Value.int k)) T) (hl : l.length = n) : segAt h (some ⟨b, 0, none⟩) 0 n = some (l.map (Value.int k)) := by
  have := o.seg_ 0 n (by simp [hl])
  rw [this, List.drop_zero, List.take_of_length_le (by simp [hl])]
theorem OwnB.arrCell (o : OwnB I h b (l.map (Value.int k)) T) (hl : l.length = n) (h0 : 0 ≤ i) (h1 : i < (n : Int)) : cellAt h (some ⟨b, 0, none⟩) (i.toNat * 1) = some (.int k (Sx.at_ l i)) := by
  rw [Nat.mul_one]; exact o.cell (map_at h0 (by omega))
theorem pr_indexArr {t e : TypeId} {x ix : Operand} {kk : IntKind} {sz : Nat} (hx : ev N ρ x = .pointer (some ⟨b, 0, none⟩)) (hix : ev N ρ ix = .int kk i) (hu : P.underlying t = some (.array n e)) (hsz : pureRun P (sizeOf e) = some sz)
    (h0 : 0 ≤ i) (h1 : i < (n : Int)) : pureRun P (execOp (ev N ρ) ⟨dst, .indexAddr t x ix, ty, pos, aft, g⟩) = some (.value (elemPtr (some ⟨b, 0, none⟩) (i.toNat * sz))) := by
  simp only [execOp, hx, hix]
  refine (pureRun_bind' (x := elemPtr (some ⟨b, 0, none⟩) (i.toNat * sz)) ?_).trans rfl
  unfold Instr.indexAt
  refine (pureRun_bind' (x := (kk, i)) rfl).trans ?_
  dsimp only
  rw [pureRun_bind' (pureRun_underlying hu)]
  dsimp only
  rw [pureRun_bind' (x := (⟨b, 0, none⟩ : Addr)) rfl]
  rw [pureRun_bind' (pureRun_pure _)]
  dsimp only
  rw [pureRun_bind' (pureRun_underlying hu)]
  dsimp only
  rw [if_pos ⟨h0, h1⟩, pureRun_bind' hsz, Addr.add_lit]
  rfl
theorem owp_storeArr {t : TypeId} {x vx : Operand} (v : Int) (hB : Bd I h) (o : OwnB I h b (l.map (Value.int k)) T) (hl : l.length = n) (h0 : 0 ≤ i) (h1 : i < (n : Int))
    (hx : ev N ρ x = elemPtr (some ⟨b, 0, none⟩) (i.toNat * 1)) (hv : ev N ρ vx = .int k v) (hm : pureRun P (sizeOf t) = some 1)
    (kk : ∀ h', Pst (One b) I h I h' → OwnB I h' b ((l.set i.toNat v).map (Value.int k)) T → K (put N ρ dst undef) h') : owp P N ⟨dst, .store t x vx, ty, pos, aft, g⟩ ρ h K := by
  have hx' : ev N ρ x = .pointer (some ⟨b, i.toNat, none⟩) := by rw [hx]; simp [elemPtr]
  refine owp_store1 i.toNat (.int k v) hB o hx' hv rfl hm (by simp; omega) (fun h' p o' => kk h' p ?_)
  rw [List.map_set]; exact o'
theorem owp_storeArrN {t : TypeId} {x vx : Operand} {l2 : List Int} (hB : Bd I h) (o : OwnB I h b (l.map (Value.int k)) T) (hl : l.length = n) (hl2 : l2.length = n)
    (hx : ev N ρ x = .pointer (some ⟨b, 0, none⟩)) (hv : ev N ρ vx = .agg (l2.map (Value.int k)).toArray) (hm : pureRun P (sizeOf t) = some n)
    (kk : ∀ h', Pst (One b) I h I h' → OwnB I h' b (l2.map (Value.int k)) T → K (put N ρ dst undef) h') : owp P N ⟨dst, .store t x vx, ty, pos, aft, g⟩ ρ h K := by
  refine owp_storeN 0 (l2.map (Value.int k)) hB o hx hv (by intro v hv; simp at hv; obtain ⟨a, _, rfl⟩ := hv; rfl) (by rw [hm]; simp [hl2]) (by simp [hl, hl2]) (fun h' p o' => kk h' p ?_)
  have : (l.map (Value.int k)).drop (0 + (l2.map (Value.int k)).length) = [] := List.drop_of_length_le (by simp [hl, hl2])
  rw [this, List.append_nil, List.take_zero, List.nil_append] at o'
  exact o'
end
section
variable {P : Program} {N : Nat} {ρ : Env} {h : Heap}
inductive RV1 (P : Program) (N : Nat) (ρ : Env) (h : Heap) : ResultVar → Value → Prop where
  | tmp {t v} : look N ρ t = v → RV1 P N ρ h (.tmp t) v
  | one {t T b v} : look N ρ t = .pointer (some ⟨b, 0, none⟩) → pureRun P (isAgg T) = some false → cellAt h (some ⟨b, 0, none⟩) 0 = some v → RV1 P N ρ h (.cell t T) v
  | agg {t T b m cs} : look N ρ t = .pointer (some ⟨b, 0, none⟩) → pureRun P (isAgg T) = some true → pureRun P (sizeOf T) = some m → segAt h (some ⟨b, 0, none⟩) 0 m = some cs → RV1 P N ρ h (.cell t T) (.agg cs.toArray)
inductive RVs (P : Program) (N : Nat) (ρ : Env) (h : Heap) : List ResultVar → List Value → Prop where
  | nil : RVs P N ρ h [] []
  | cons {r v rs vs} : RV1 P N ρ h r v → RVs P N ρ h rs vs → RVs P N ρ h (r :: rs) (v :: vs)
def tupV : List Value → Value
  | [v] => v
  | vs => .tuple vs.toArray
def retQ2 (P : Program) (N : Nat) (rs : List ResultVar) (R : Value → Heap → Prop) : Post
  | .exit _, _, _ => False
  | _, ρ, h => ∃ vs, RVs P N ρ h rs vs ∧ R (tupV vs) h
def resF (tmps : Array Value) : ResultVar → Sem Value
  | .tmp t => pure (tmps.getD t undef)
  | .cell a t => do loadVar t (← asAddr (tmps.getD a undef))
theorem rv1_run {r : ResultVar} {v : Value} {a : Act} {w : World} (ha : Rel N ρ a) (hw : w.heap = h) (q : RV1 P N ρ h r v) :
    (resF a.tmps r).run P w = .ok v w := by
  subst hw
  cases q with
  | tmp e => simp only [resF]; rw [ha.get, e]; rfl
  | @one t T b v e hg hc =>
    have h2 := cell_of hc
    simp only [resF, ha.get, e, asAddr]
    simp only [Nat.add_zero] at h2
    simp [loadVar, pureRun_run hg w, h2, load, Sem.run]
  | @agg t T b m cs e hg hm hc =>
    have hl := seg_len hc
    have h2 : (loadCells ⟨b, 0, none⟩ m).run P w = .ok cs.toArray w := by
      rw [← hl]
      refine run_loadCells_list w _ cs fun j v hv => ?_
      rw [Addr.add_lit]
      have := seg_cell hc hv
      rw [Nat.zero_add] at this
      exact cell_of this
    simp only [resF, ha.get, e, asAddr]
    simp [loadVar, pureRun_run hg w, pureRun_run hm w, h2]
theorem rvs_run {rs : List ResultVar} {vs : List Value} {a : Act} {w : World} (ha : Rel N ρ a) (hw : w.heap = h) (q : RVs P N ρ h rs vs) :
    (rs.mapM (resF a.tmps)).run P w = .ok vs w := by
  induction q with
  | nil => simp
  | cons h1 _ ih =>
    have := rv1_run ha hw h1
    rw [List.mapM_cons]
    simp only [Sem.run_bind]
    rw [this]
    simp only [Result.andThen_ok, ih, Sem.run_pure]
theorem ret_of2 {f : FuncId} {fn : Func} {c : Code} {args : List Value} {rs : List ResultVar} {R : Value → Heap → Prop}
    (hf : P.funcs[f]? = some fn) (hb : fn.body = some c) (hn : fn.ntmps = N) (hrs : fn.results = rs.toArray) (hN : args.length ≤ N)
    (k : cwp P N c (retQ2 P N rs R) (argEnv 0 args) h) : Ret P f args.toArray h R := by
  intro w hw
  refine calls_of_wp hf hb ?_
  have hr := rel_args (N := N) hN
  have := wpIn_wide.1 (k none w w _ hr (Same.refl w) hw)
  rw [hn]
  simp only [List.size_toArray]
  refine Code.wp_mono (fun e a' w' hq => ?_) this
  unfold lift at hq
  have fin : ∀ ρ', Rel N ρ' a' → a'.defers = [] → Same w w' → (∃ vs, RVs P N ρ' w'.heap rs vs ∧ R (tupV vs) w'.heap) → a'.defers = [] ∧ ∃ v, (results fn a'.tmps).run P w' = .ok v w' ∧ ∃ u, Ending.returned v = .returned u ∧ Same w w' ∧ R u w'.heap := by
    rintro ρ' hr' hd hs' ⟨vs, hv, hR⟩
    refine ⟨hd, tupV vs, ?_, _, rfl, hs', hR⟩
    have h1 := rvs_run hr' rfl hv
    have hf : results fn a'.tmps = (do
        let vs ← fn.results.mapM (resF a'.tmps)
        pure (if h : vs.size = 1 then vs[0] else .tuple vs)) := by
      unfold results
      rfl
    rw [hf, hrs, List.mapM_toArray]
    simp only [map_eq_pure_bind, Sem.run_bind, h1, Result.andThen_ok, Sem.run_pure]
    congr 1
    match vs with
    | [] => rfl
    | [v] => rfl
    | _ :: _ :: _ => simp [tupV]
  cases e <;> simp only [exOf] at hq <;> first
    | exact hq.elim
    | (obtain ⟨ρ', hr', hd, hs', hq⟩ := hq
       first
         | exact hq.elim
         | exact fin ρ' hr' hd hs' hq)
end
structure ImB (I : Gh) (h : Heap) (b : Nat) (cs : List Value) (T : TypeId) : Prop where
  at_ : h[b]? = some (.cells cs.toArray T (0, 0))
  im : I b
section
variable {I I' : Gh} {h h' : Heap} {b n : Nat} {cs : List Value} {T : TypeId} {l : List Int} {k : IntKind}
theorem ImB.up (o : ImB I h b cs T) (u : Up I h I' h') : ImB I' h' b cs T := ⟨(u.keep b o.im).trans o.at_, u.sub b o.im⟩
theorem OwnB.im (o : OwnB I h b cs T) : ImB (Fz I (some ⟨b, 0, none⟩)) h b cs T := ⟨o.at_, .inr ⟨_, rfl, rfl⟩⟩
theorem ImB.cell (o : ImB I h b cs T) {off : Nat} {v : Value} (hv : cs[off]? = some v) : cellAt h (some ⟨b, 0, none⟩) off = some v := by
  unfold cellAt; simp only; rw [o.at_]; simpa using hv
theorem ImB.seg_ (o : ImB I h b cs T) (off m : Nat) (hl : off + m ≤ cs.length) : segAt h (some ⟨b, 0, none⟩) off m = some ((cs.drop off).take m) := by
  unfold segAt; simp only; rw [o.at_]; simp [hl, seg]
theorem ImB.arrSeg (o : ImB I h b (l.map (Value.int k)) T) (hl : l.length = n) : segAt h (some ⟨b, 0, none⟩) 0 n = some (l.map (Value.int k)) := by
  have := o.seg_ 0 n (by simp [hl])
  rw [this, List.drop_zero, List.take_of_length_le (by simp [hl])]
theorem ImB.arrCell {i : Int} (o : ImB I h b (l.map (Value.int k)) T) (hl : l.length = n) (h0 : 0 ≤ i) (h1 : i < (n : Int)) : cellAt h (some ⟨b, 0, none⟩) (i.toNat * 1) = some (.int k (Sx.at_ l i)) := by
  rw [Nat.mul_one]; exact o.cell (map_at h0 (by omega))
theorem reps_ints (l : List Int) : Reps (tInt k) I h (l.map (Value.int k)) l := by
  induction l with
  | nil => exact .nil
  | cons x l ih =>
    show Reps (tInt k) I h ([Value.int k x] ++ l.map (Value.int k)) (x :: l)
    exact .cons rfl ih
theorem ImB.arrRd (o : ImB I h b (l.map (Value.int k)) T) (hl : l.length = n) : Rd (tInt k) I h (some ⟨b, 0, none⟩) n l where
  toSl := sl_of o.at_ (by simp [tInt, hl]) (Nat.le_of_eq hl) (by
    have : Sx.seg (l.map (Value.int k)).toArray 0 (l.length * (tInt k).size) = l.map (Value.int k) := by
      simp only [Sx.seg, tInt, Nat.mul_one, List.drop_zero]; exact List.take_of_length_le (by simp)
    rw [this]; exact reps_ints l)
  im ad e _ := by obtain rfl := Option.some.inj e; exact o.im
end
section
variable {α β : Type} {T : Ty α} {U : Ty β} {I : Gh} {h : Heap} {a a2 : Option Addr} {cap cap2 b : Nat} {l : List α} {m : List β} {cs : List Value} {t : TypeId} {M A B : Gh}
theorem Rd.inI (r : Rd T I h a cap l) {i : Int} (h0 : 0 ≤ i) (h1 : i < (l.length : Int)) {c : Nat} (x : InA a c) : I c := by obtain ⟨ad, e, rfl⟩ := x; exact r.im ad e (by have := r.le; omega)
end
def mk {α : Type} (n : Int) (z : α) : Option (List α) := if 0 ≤ n ∧ n ≤ (Lim : Int) then some (List.replicate n.toNat z) else none
theorem mk_some {α : Type} {n : Int} {z : α} {r : List α} (h : mk n z = some r) : 0 ≤ n ∧ n ≤ (Lim : Int) ∧ r = List.replicate n.toNat z := by
  unfold mk at h
  obtain ⟨h1, h2⟩ := guard_pos h
  exact ⟨h1.1, h1.2, (Option.some.inj h2).symm⟩
theorem made_flat (z : Array Value) (n : Nat) : (madeCells z (n * z.size)).toList = (List.replicate n z.toList).flatten := by
  unfold madeCells
  rw [Array.toList_map, Array.toList_range]
  induction n with
  | zero => simp
  | succ n ih =>
    rw [List.replicate_succ', List.flatten_append, ← ih, Nat.succ_mul, List.range_add, List.map_append]
    congr 1
    simp only [List.flatten_cons, List.flatten_nil, List.append_nil, List.map_map]
    apply List.ext_getElem
    · simp
    · intro i h1 h2
      simp only [List.length_map, List.length_range] at h1
      have : (n * z.size + i) % z.size = i := by rw [Nat.mul_comm, Nat.mul_add_mod, Nat.mod_eq_of_lt h1]
      simp [this, h1]
theorem reps_replicate {α : Type} {T : Ty α} {I : Gh} {h : Heap} {cs : List Value} {z : α} (r : T.rep I h cs z) (n : Nat) : Reps T I h (List.replicate n cs).flatten (List.replicate n z) := by
  induction n with
  | zero => exact .nil
  | succ n ih => rw [List.replicate_succ, List.replicate_succ, List.flatten_cons]; exact .cons r ih
section
variable {P : Program} {N : Nat} {ρ : Env} {h : Heap} {K : Env → Heap → Prop}
variable {dst : Option Tmp} {ty : TypeId} {pos : String} {aft : Array Edge} {g : Option (Nat × Bool)}
theorem owp_make {α : Type} (T : Ty α) {I : Gh} {t e : TypeId} {x y : Operand} {kl kc : IntKind} {n : Int} {z : α} {r : List α} {i : TypeInfo} {zv : Value} (hB : Bd I h)
    (hu : P.underlying t = some (.slice e)) (hi : P.info? e = some i) (hz : i.zero = some zv) (hs : zv.cells.size = T.size) (hsz : i.size = T.size) (hby : Nat.ble i.bytes 128 = true)
    (hx : ev N ρ x = .int kl n) (hy : ev N ρ y = .int kc n) (hm : mk n z = some r) (hrep : ∀ I h, T.rep I h zv.cells.toList z)
    (k : ∀ c h', h.size ≤ c → Pst No I h I h' → Own T I h' (some ⟨c, 0, none⟩) r.length r → K (put N ρ dst (.slice (some ⟨c, 0, none⟩) r.length r.length)) h') :
    owp P N ⟨dst, .makeSlice t x y, ty, pos, aft, g⟩ ρ h K := by
  obtain ⟨h0, h1, rfl⟩ := mk_some hm
  unfold Lim at h1
  have hb := Nat.le_of_ble_eq_true hby
  intro w a ha hh K' hK
  subst hh
  have hbytes : (i.bytes : Int) * n ≤ 281474976710656 := by
    have : (i.bytes : Int) * n ≤ 128 * n := Int.mul_le_mul_of_nonneg_right (by omega) h0
    omega
  have hr := run_make w t e i zv hu hi hz kl kc n n h0 (Int.le_refl _) hbytes (by omega)
  have hc : madeCells zv.cells (n.toNat * i.size) = (List.replicate n.toNat zv.cells.toList).flatten.toArray := by
    rw [hsz, ← hs, ← made_flat]
  rw [hc] at hr
  unfold xwp
  have he : (execOp a.eval ⟨dst, .makeSlice t x y, ty, pos, aft, g⟩).run P w = .ok (.value (.slice (some ⟨w.heap.size, 0, none⟩) n.toNat n.toNat)) (w.alloc (.cells (List.replicate n.toNat zv.cells.toList).flatten.toArray e)) := by
    rw [ha.eval]
    simp only [execOp, hx, hy]
    simp [hr]
  rw [he]
  have hl : (List.replicate n.toNat z).length = n.toNat := List.length_replicate
  have o := (own_push hB (List.replicate n.toNat zv.cells.toList).flatten e).own (reps_replicate (hrep I _) n.toNat)
  have := k w.heap.size _ (Nat.le_refl _) (post_push hB _) o
  rw [hl] at this
  exact hK _ _ _ (ha.put _ _) (put_defers _ _ _) ⟨rfl, rfl, rfl⟩ this
theorem owp_mk {α : Type} (T : Ty α) {I : Gh} {t e : TypeId} {bytes : Nat} {x y : Operand} {kl kc : IntKind} {n : Int} {z : α} {r : List α} (zv : Value) (hB : Bd I h)
    (hu : P.underlying t = some (.slice e)) (he : ElemOk P e T.size bytes) (hz : pureRun P (zeroValue e) = some zv) (hby : Nat.ble bytes 128 = true)
    (hx : ev N ρ x = .int kl n) (hy : ev N ρ y = .int kc n) (hm : mk n z = some r) (hrep : ∀ I h, T.rep I h zv.cells.toList z)
    (k : ∀ c h', h.size ≤ c → Pst No I h I h' → Own T I h' (some ⟨c, 0, none⟩) r.length r → K (put N ρ dst (.slice (some ⟨c, 0, none⟩) r.length r.length)) h') :
    owp P N ⟨dst, .makeSlice t x y, ty, pos, aft, g⟩ ρ h K := by
  obtain ⟨i, z', hi, hz', hsz, hb, hzs⟩ := he.ok
  have e1 : z' = zv := by
    have h1 := pureRun_run hz (default : World)
    simp [zeroValue, typeInfo, hi, hz'] at h1
    exact h1
  subst e1
  exact owp_make T hB hu hi hz' hzs hsz (by rw [hb]; exact hby) hx hy hm hrep k
end
theorem splice_get {c vs : List Value} {p k : Nat} (hp : p + vs.length ≤ c.length) : (c.take p ++ vs ++ c.drop (p + vs.length))[k]? = if k < p then c[k]? else if k < p + vs.length then vs[k - p]? else c[k]? := by
  have e : (c.take p).length = p := by rw [List.length_take]; omega
  by_cases h1 : k < p
  · rw [if_pos h1, List.append_assoc, List.getElem?_append_left (by omega), List.getElem?_take, if_pos h1]
  · rw [if_neg h1]
    by_cases h2 : k < p + vs.length
    · rw [if_pos h2, List.append_assoc, List.getElem?_append_right (by omega), List.getElem?_append_left (by omega), e]
    · rw [if_neg h2, List.getElem?_append_right (by rw [List.length_append]; omega), List.getElem?_drop, List.length_append, e]
      congr 1; omega
theorem seg_get {c : Array Value} {o m k : Nat} : (seg c o m)[k]? = if k < m then c.toList[o + k]? else none := by
  unfold seg
  rw [List.getElem?_take, List.getElem?_drop]
theorem seg_out {c : Array Value} {vs : List Value} {p o m : Nat} (hp : p + vs.length ≤ c.size) (h : o + m ≤ p ∨ p + vs.length ≤ o) : seg (c.toList.take p ++ vs ++ c.toList.drop (p + vs.length)).toArray o m = seg c o m := by
  apply List.ext_getElem?
  intro k
  rw [seg_get, seg_get]
  split
  · rw [splice_get (by simpa using hp)]
    rcases h with h | h
    · rw [if_pos (by omega)]
    · rw [if_neg (by omega), if_neg (by omega)]
  · rfl
theorem seg_in {c : Array Value} {vs : List Value} {p o m f : Nat} (hp : p + vs.length ≤ c.size) (e : p = o + f) (h : f + vs.length ≤ m) : seg (c.toList.take p ++ vs ++ c.toList.drop (p + vs.length)).toArray o m = (seg c o m).take f ++ vs ++ (seg c o m).drop (f + vs.length) := by
  subst e
  apply List.ext_getElem?
  intro k
  by_cases hm : o + m ≤ c.size
  · have hl : (seg c o m).length = m := seg_length hm
    rw [seg_get, splice_get (by simpa using hp), splice_get (by omega), seg_get]
    by_cases hk : k < m
    · simp only [hk, if_true]
      by_cases h1 : k < f
      · rw [if_pos h1, if_pos (by omega)]
      · rw [if_neg h1, if_neg (by omega)]
        by_cases h2 : k < f + vs.length
        · rw [if_pos h2, if_pos (by omega)]; congr 1; omega
        · rw [if_neg h2, if_neg (by omega)]
    · simp only [hk, if_false]
      rw [if_neg (by omega), if_neg (by omega)]
  · have hl : (seg c o m).length = c.size - o := by unfold seg; rw [List.length_take, List.length_drop]; simp; omega
    rw [seg_get, splice_get (by simpa using hp), splice_get (by omega), seg_get]
    by_cases hk : k < m
    · simp only [hk, if_true]
      by_cases h1 : k < f
      · rw [if_pos h1, if_pos (by omega)]
      · rw [if_neg h1, if_neg (by omega)]
        by_cases h2 : k < f + vs.length
        · rw [if_pos h2, if_pos (by omega)]; congr 1; omega
        · rw [if_neg h2, if_neg (by omega)]
    · simp only [hk, if_false]
      rw [if_neg (by omega), if_neg (by omega)]
section
variable {P : Program} {N : Nat} {ρ : Env} {h : Heap} {K : Env → Heap → Prop}
variable {dst : Option Tmp} {ty : TypeId} {pos : String} {aft : Array Edge} {g : Option (Nat × Bool)}
theorem owp_storeElem {α : Type} (T : Ty α) {G I : Gh} {t : TypeId} {x vx : Operand} {a : Option Addr} {cap : Nat} {l : List α} {i : Int} (f : Nat) (vs : List Value) {cs : List Value} (x' : α)
    (hB : Bd I h) (hGB : Bd G h) (s : OwnX T G I h a cap l) (hG : ∀ b, InA a b → ¬ G b) (h0 : 0 ≤ i) (h1 : i < (l.length : Int))
    (hs : segAt h a (i.toNat * T.size) T.size = some cs) (hfit : Nat.ble (f + vs.length) T.size = true)
    (hx : ev N ρ x = elemPtr a (i.toNat * T.size + f)) (hv : (ev N ρ vx).cells = vs.toArray) (hone : ∀ v ∈ vs, v.oneCell' = true) (hm : pureRun P (sizeOf t) = some vs.length)
    (hrep : T.rep G h (cs.take f ++ vs ++ cs.drop (f + vs.length)) x')
    (k : ∀ h', Pst (InA a) I h I h' → OwnX T G I h' a cap (l.set i.toNat x') → K (put N ρ dst undef) h') : owp P N ⟨dst, .store t x vx, ty, pos, aft, g⟩ ρ h K := by
  intro w ac ha hh K' hK
  subst hh
  have hfit := Nat.le_of_ble_eq_true hfit
  cases a with
  | none => have := (s.nil rfl).1; subst this; simp at h1; omega
  | some ad =>
    obtain ⟨c, T', hb, hsp, hno, hbd, hle, _⟩ := s.reps ad rfl
    obtain ⟨b, o, sp⟩ := ad
    obtain rfl : sp = none := hsp
    simp only at hb hno hbd
    have hi : i.toNat < l.length := by omega
    have hstep : (i.toNat + 1) * T.size ≤ cap * T.size := Nat.mul_le_mul_right _ (by omega)
    rw [Nat.add_mul, Nat.one_mul] at hstep
    have hp : o + (i.toNat * T.size + f) + vs.length ≤ c.size := by omega
    have h3 := pureRun_run hm w
    have hst := run_storeCells_at P b (o + (i.toNat * T.size + f)) T' vs 0 c w hb (by simpa using hp) hone
    simp only [Nat.add_zero] at hst
    have hr : (execOp (ev N ρ) ⟨dst, .store t x vx, ty, pos, aft, g⟩).run P w = .ok .skip (w.setRow b (c.toList.take (o + (i.toNat * T.size + f)) ++ vs ++ c.toList.drop (o + (i.toNat * T.size + f) + vs.length)).toArray) := by
      simp only [execOp, Instr.storeAt, storeVar, Instr.sureAddr, hx, hv, elemPtr]
      simp [h3, hst]
    unfold xwp
    rw [ha.eval, hr]
    have hpst := post_setRow (w := w) (I := I) (b := b) (c := (c.toList.take (o + (i.toNat * T.size + f)) ++ vs ++ c.toList.drop (o + (i.toNat * T.size + f) + vs.length)).toArray) hB hb
    have hu : Up G w.heap G _ := (post_setRow (w := w) (I := G) (b := b) (c := (c.toList.take (o + (i.toNat * T.size + f)) ++ vs ++ c.toList.drop (o + (i.toNat * T.size + f) + vs.length)).toArray) hGB hb).up hGB (fun y hy => hG y ⟨⟨b, o, none⟩, rfl, hy.symm⟩)
    have hcs : cs = seg c (o + i.toNat * T.size) T.size := by
      unfold segAt at hs
      simp only [hb] at hs
      rw [if_pos (by omega)] at hs
      exact (Option.some.inj hs).symm
    have hb' := heap_setRow (c' := (c.toList.take (o + (i.toNat * T.size + f)) ++ vs ++ c.toList.drop (o + (i.toNat * T.size + f) + vs.length)).toArray) hb
    have hsize : (c.toList.take (o + (i.toNat * T.size + f)) ++ vs ++ c.toList.drop (o + (i.toNat * T.size + f) + vs.length)).toArray.size = c.size := by
      simp only [List.size_toArray, List.length_append, List.length_take, List.length_drop, Array.length_toList]; omega
    refine hK _ _ _ (ha.put _ _) (put_defers _ _ _) (same_setRow _ _ _) (k _ (hpst.weaken (fun y hy => .inl ⟨⟨b, o, none⟩, rfl, hy.symm⟩)) ⟨⟨fun e => (by cases e), (by rw [List.length_set]; exact hle), ?_⟩, ?_⟩)
    · intro ad' e _
      obtain rfl := Option.some.inj e
      refine ⟨rfl, _, T', (0, 0), hb', by rw [hsize]; exact hbd, fun j hj => ?_⟩
      rw [List.length_set] at hj
      rw [List.getElem_set]
      have hjs : (j + 1) * T.size ≤ cap * T.size := Nat.mul_le_mul_right _ (by omega)
      rw [Nat.add_mul, Nat.one_mul] at hjs
      by_cases hij : i.toNat = j
      · subst hij
        rw [if_pos rfl]
        show T.rep _ _ (seg _ (o + i.toNat * T.size) T.size) _
        rw [seg_in (f := f) hp (by omega) hfit, ← hcs]
        exact T.up hu hrep
      · rw [if_neg hij, seg_out hp ?_]
        · obtain ⟨_, c2, t2, fr2, h2, _, hr2⟩ := s.some_ _ rfl (by omega)
          have hcc : Obj.cells c2 t2 fr2 = Obj.cells c T' (0, 0) := Option.some.inj (h2.symm.trans hb)
          injection hcc with e1 e2 e3
          subst e1
          exact T.up hu (hr2 j hj)
        · rcases Nat.lt_or_gt_of_ne hij with hlt | hgt
          · have : (i.toNat + 1) * T.size ≤ j * T.size := Nat.mul_le_mul_right _ hlt
            rw [Nat.add_mul, Nat.one_mul] at this
            right; simp only; omega
          · have : (j + 1) * T.size ≤ i.toNat * T.size := Nat.mul_le_mul_right _ hgt
            rw [Nat.add_mul, Nat.one_mul] at this
            left; simp only; omega
    · intro ad' e
      obtain rfl := Option.some.inj e
      exact ⟨rfl, hno, _, T', hb', by rw [hsize]; exact hbd⟩
end
end Go.Proofs.YtjkbhpokboolpaaGreatDoor.Sx
