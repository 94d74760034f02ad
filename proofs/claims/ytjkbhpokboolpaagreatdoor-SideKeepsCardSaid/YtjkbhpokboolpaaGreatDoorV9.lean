import Derived.Test.YtjkbhpokboolpaaGreatDoorV8
import Derived.Test.YtjkbhpokboolpaaGreatDoorV5
namespace Go.Proofs.YtjkbhpokboolpaaGreatDoor.Sx
open Go
section
variable {P : Program} {N : Nat} {ρ : Env} {h : Heap} {K : Env → Heap → Prop}
variable {dst : Option Tmp} {ty : TypeId} {pos : String} {aft : Array Edge} {g : Option (Nat × Bool)}
theorem owp_clear {α : Type} (T : Ty α) {G I : Gh} {t e : TypeId} {x : Operand} {a a' : Option Addr} {cap c' lo n' : Nat} {l : List α} {z : α} (zv : Value) (hu : P.underlying t = some (.slice e)) (hz : pureRun P (zeroValue e) = some zv)
    (hB : Bd I h) (hGB : Bd G h) (s : OwnX T G I h a cap l) (hG : ∀ b, InA a b → ¬ G b) (hrep : ∀ I h, T.rep I h zv.cells.toList z) (hlo : lo ≤ l.length) (hn : n' = l.length - lo) (ha' : a' = slA a cap lo T.size)
    (hx : ev N ρ x = .slice a' n' c')
    (k : ∀ h', Pst (InA a) I h I h' → OwnX T G I h' a cap (l.take lo ++ List.replicate (l.length - lo) z) → K (put N ρ dst (.tuple #[])) h') :
    owp P N ⟨dst, .call ⟨.builtin .clear, #[x], #[t]⟩, ty, pos, aft, g⟩ ρ h K := by
  intro w ac ha hh K' hK
  subst hh
  subst hn
  subst ha'
  have hx' : ac.eval x = .slice (slA a cap lo T.size) (l.length - lo) c' := by rw [ha.eval]; exact hx
  have hle := s.toSl.le
  have hzr := pureRun_run hz
  unfold xwp
  rcases Nat.eq_zero_or_pos (l.length - lo) with h0 | h0
  · have hr : (execOp ac.eval ⟨dst, .call ⟨.builtin .clear, #[x], #[t]⟩, ty, pos, aft, g⟩).run P w = .ok (.value (.tuple #[])) w := by
      simp only [execOp, resolve]
      rw [h0] at hx'
      cases hq : slA a cap lo T.size with
      | none => simp [invoke, builtin, hx', Builtin.clear_, run_underlying hu, hq]
      | some ad => simp [invoke, builtin, hx', Builtin.clear_, run_underlying hu, hq]
    rw [hr]
    refine hK _ _ _ (ha.put _ _) (put_defers _ _ _) (Same.refl w) (k _ (Pst.refl hB |>.weaken fun b x => .inl x) ?_)
    rw [h0, List.replicate_zero, List.append_nil, List.take_of_length_le (by omega)]
    exact s
  · cases a with
    | none => have := (s.toSl.nil rfl).1; subst this; simp at h0
    | some ad =>
      obtain ⟨c, t1, hb, hsp, hno, hbd, hl1, r⟩ := s.reps ad rfl
      obtain ⟨b, o, sp⟩ := ad
      obtain rfl : sp = none := hsp
      simp only at hb hno hbd r
      have hsl : slA (some ⟨b, o, none⟩) cap lo T.size = some ⟨b, o + lo * T.size, none⟩ := by
        unfold slA
        rw [if_neg (by omega)]
        simp [Addr.add_lit]
      rw [hsl] at hx'
      have hr0 := reps_replicate (hrep G w.heap) (l.length - lo)
      have hlen := hr0.len
      have hone := hr0.one
      rw [List.length_replicate] at hlen
      generalize hcs : (List.replicate (l.length - lo) zv.cells.toList).flatten = cs at hr0 hlen hone
      have hmul : lo * T.size + (l.length - lo) * T.size = l.length * T.size := by rw [← Nat.add_mul]; congr 1; omega
      have hmul2 : l.length * T.size ≤ cap * T.size := Nat.mul_le_mul_right _ hl1
      have hp : o + lo * T.size + cs.length ≤ c.size := by omega
      have hst := run_storeCells_at P b (o + lo * T.size) t1 cs 0 c w hb (by simpa using hp) hone
      simp only [Nat.add_zero] at hst
      have hzc : (Builtin.zeroCells zv.cells (l.length - lo)).toList = cs := by rw [← hcs]; exact made_flat zv.cells (l.length - lo)
      have hr : (execOp ac.eval ⟨dst, .call ⟨.builtin .clear, #[x], #[t]⟩, ty, pos, aft, g⟩).run P w = .ok (.value (.tuple #[])) (w.setRow b (c.toList.take (o + lo * T.size) ++ cs ++ c.toList.drop (o + lo * T.size + cs.length)).toArray) := by
        simp only [execOp, resolve]
        obtain ⟨m, hm⟩ : ∃ m, l.length - lo = m + 1 := ⟨l.length - lo - 1, by omega⟩
        rw [hm] at hx' hzc
        simp [invoke, builtin, hx', Builtin.clear_, run_underlying hu, hzr, hzc, hst]
      rw [hr]
      have hpst := post_setRow (w := w) (I := I) (b := b) (c := (c.toList.take (o + lo * T.size) ++ cs ++ c.toList.drop (o + lo * T.size + cs.length)).toArray) hB hb
      have hup : Up G w.heap G _ := (post_setRow (w := w) (I := G) (b := b) (c := (c.toList.take (o + lo * T.size) ++ cs ++ c.toList.drop (o + lo * T.size + cs.length)).toArray) hGB hb).up hGB (fun y hy => hG y ⟨⟨b, o, none⟩, rfl, hy.symm⟩)
      have hb' := heap_setRow (c' := (c.toList.take (o + lo * T.size) ++ cs ++ c.toList.drop (o + lo * T.size + cs.length)).toArray) hb
      have hsize : (c.toList.take (o + lo * T.size) ++ cs ++ c.toList.drop (o + lo * T.size + cs.length)).toArray.size = c.size := by
        simp only [List.size_toArray, List.length_append, List.length_take, List.length_drop, Array.length_toList]; omega
      have hll : (l.take lo ++ List.replicate (l.length - lo) z).length = l.length := by simp; omega
      refine hK _ _ _ (ha.put _ _) (put_defers _ _ _) (same_setRow _ _ _) (k _ (hpst.weaken (fun y hy => .inl ⟨⟨b, o, none⟩, rfl, hy.symm⟩)) ⟨sl_of hb' (by rw [hsize]; exact hbd) (by rw [hll]; exact hl1) ?_, fun ad' e' => ?_⟩)
      · have hd : (seg c o (l.length * T.size)).drop (lo * T.size + cs.length) = [] := List.drop_eq_nil_of_le (by rw [seg_length (by omega)]; omega)
        rw [hll, seg_in hp rfl (by omega), hd, List.append_nil]
        exact ((r.take lo).append hr0).up hup
      · obtain rfl := Option.some.inj e'
        exact ⟨rfl, hno, _, t1, hb', by rw [hsize]; exact hbd⟩
end
section
variable {P : Program} {N : Nat} {ρ : Env} {h : Heap} {K : Env → Heap → Prop} {α : Type} {T : Ty α} {k : Cl} {E : En} {L : List Rs} {I : Gh} {a : Option Addr} {c n : Nat} {l : List α} {z : α}
variable {dst : Option Tmp} {t e ty : TypeId} {pos : String} {aft : Array Edge} {g : Option (Nat × Bool)} {x : Operand}
theorem clO (hs : St E (rO T k a c n l :: L) I h) (z : α) (zv : Value) (hrep : ∀ I h, T.rep I h zv.cells.toList z) (q : ∀ h', St E (rO T k a c n (List.replicate l.length z) :: L) I h' → K (put N ρ dst (.tuple #[])) h')
    (hu : P.underlying t = some (.slice e) := by kernel_rfl) (hz : pureRun P (zeroValue e) = some zv := by kernel_rfl) (hx : ev N ρ x = .slice a n c := by kernel_rfl) : owp P N ⟨dst, .call ⟨.builtin .clear, #[x], #[t]⟩, ty, pos, aft, g⟩ ρ h K := by
  refine owp_clear T (lo := 0) zv hu hz hs.bd hs.bdG (hs.ow d0) (hs.notG d0) hrep (Nat.zero_le _) (n' := n) (hs.nO d0) (a' := a) ?_ hx fun h' p o => ?_
  · unfold slA; split
    · rfl
    · cases a with
      | none => rfl
      | some ad =>
        obtain ⟨b, o, sp⟩ := ad
        have := ((hs.ow d0).ow _ rfl).1
        obtain rfl : sp = none := this
        simp [Addr.add_lit]
  · simp only [List.take_zero, List.nil_append, Nat.sub_zero] at o
    exact q h' (own_upd hs p o (by rw [List.length_replicate]; exact (hs.nO d0).symm) (fun _ y => .inl y))
end
section
variable {P : Program} {N : Nat} {ρ : Env} {h : Heap} {K : Env → Heap → Prop} {α : Type} {T : Ty α} {E : En} {L : List Rs} {I : Gh}
variable {dst : Option Tmp} {ty : TypeId} {pos : String} {aft : Array Edge} {g : Option (Nat × Bool)}
theorem owp_appendZn {t tn e : TypeId} {x y : Operand} {k : Nat} {kn : IntKind} (z : α) (v : Value) (hs : St E L I h) (hk : 0 < k) (hby : k ≤ 1000000)
    (q : ∀ b' cap' h', St E (rO T .i (some ⟨b', 0, none⟩) cap' k (List.replicate k z) :: L) I h' → K (put N ρ dst (.slice (some ⟨b', 0, none⟩) k cap')) h')
    (hrep : ∀ G h, T.rep G h [v] z) (hT : T.size = 1 := by kernel_rfl)
    (hu : P.underlying t = some (.slice e) := by kernel_rfl) (htn : P.underlying tn = some (.int kn) := by kernel_rfl) (he : elemChk P e 1 1 = true := by kernel_rfl) (hz : ((P.info? e).bind (·.zero)).map (·.cells) = some #[v] := by kernel_rfl)
    (hx : ev N ρ x = .slice none 0 0 := by kernel_rfl) (hy : ev N ρ y = .int kn k := by kernel_rfl) : owp P N ⟨dst, .call ⟨.builtin .append, #[x, y], #[t, tn]⟩, ty, pos, aft, g⟩ ρ h K := by
  intro w ac ha hh K' hK
  subst hh
  obtain ⟨i, zz, hi, hzz, hsz, hbt, hzs⟩ := (elemOk_of he).ok
  have hold : (Builtin.firstCells i.size 0 (.slice none 0 0)).run P w.drew = .ok ([] : List Value).toArray w.drew := by
    simp [Builtin.firstCells, loadCells, loadCellsFrom]
  have hzc : zz.cells = #[v] := by rw [hi] at hz; simp only [Option.bind_some, hzz, Option.map_some] at hz; exact Option.some.inj hz
  have hns : Builtin.nextslicecap (0 + k) 0 = k := by
    unfold Builtin.nextslicecap
    simp; omega
  have hrun := Go.Lib.run_append_grow_zeros (P := P) w t tn ty e i zz kn kn hu htn hi hzz none 0 0 [] hold k (by omega) (by omega) (by omega) (by omega) (by rw [hbt]; omega) (by rw [hns, hbt]; omega)
  have hge := grownCap_ge w (0 + k) 0 e
  rw [hzc, zeroCells1, zeroCells1, Nat.zero_add] at hrun
  rw [Nat.zero_add] at hge
  generalize hgc : grownCap w k 0 e = gc at *
  have hcells : ([] : List Value).toArray ++ (List.replicate k v).toArray ++ (List.replicate (gc - k) v).toArray = (List.replicate gc v).toArray := by
    apply Array.ext' ; simp
    omega
  rw [hcells] at hrun
  unfold xwp
  have hx' : ac.eval x = .slice none 0 0 := by rw [ha.eval]; exact hx
  have hy' : ac.eval y = .int kn k := by rw [ha.eval]; exact hy
  have hr : (execOp ac.eval ⟨dst, .call ⟨.builtin .append, #[x, y], #[t, tn]⟩, ty, pos, aft, g⟩).run P w = .ok (.value (.slice (some ⟨w.heap.size, 0, none⟩) k gc)) (w.drew.alloc (.cells (List.replicate gc v).toArray e)) := by
    simp only [execOp, resolve]
    simp [invoke, builtin, hx', hy', hrun]
  rw [hr]
  have hh : (w.drew.alloc (.cells (List.replicate gc v).toArray e)).heap = w.heap.push (.cells (List.replicate gc v).toArray e) := rfl
  have hb' : (w.heap.push (Obj.cells (List.replicate gc v).toArray e))[w.heap.size]? = some (.cells (List.replicate gc v).toArray e) := by simp
  refine hK _ _ _ (ha.put _ _) (put_defers _ _ _) ⟨rfl, rfl, rfl⟩ (q w.heap.size gc _ ?_)
  rw [hh]
  have p : Pst No I w.heap I (w.heap.push (.cells (List.replicate gc v).toArray e)) := post_push hs.bd _
  refine hs.new p ⟨⟨sl_of hb' (by simp [hT]) (by simpa using hge) ?_, ⟨fun ad e' => ?_⟩⟩, List.length_replicate⟩ ?_
  · have : seg (List.replicate gc v).toArray 0 ((List.replicate k z).length * T.size) = List.replicate k v := by
      simp only [seg, List.drop_zero, List.length_replicate, hT, Nat.mul_one, List.take_replicate]
      congr 1; omega
    rw [this]; exact Reps.zeros (hrep _ _) k
  · obtain rfl := Option.some.inj e'
    exact ⟨rfl, _, _, hb', by simp [hT]⟩
  · rintro d ⟨ad, e', rfl⟩
    obtain rfl := Option.some.inj e'
    exact ⟨Nat.le_refl _, by simp, fun x => absurd (hs.bd _ x) (Nat.lt_irrefl _)⟩
theorem pkd {L L' : List Rs} {x : Rs} (p : Pk L L') : Pk (x :: L) L' := by
  induction p with
  | n => exact .n
  | c d _ ih => exact .c (.s d) ih
  | w d im _ ih => exact .w (.s d) im ih
  | p d h _ ih => exact .p (.s d) h ih
  | f im _ ih => exact .f im ih
theorem pk0 : {L : List Rs} → Pk L L
  | [] => .n
  | _ :: _ => .c .z pk0
section
variable {T : List Rs} {a1 a2 a3 a4 a5 a6 a7 a8 a9 : Rs}
theorem pk1 : Pk (a1 :: T) T := pkd pk0
theorem pk2 : Pk (a1 :: a2 :: T) T := pkd pk1
theorem pk3 : Pk (a1 :: a2 :: a3 :: T) T := pkd pk2
theorem pk4 : Pk (a1 :: a2 :: a3 :: a4 :: T) T := pkd pk3
theorem pk5 : Pk (a1 :: a2 :: a3 :: a4 :: a5 :: T) T := pkd pk4
theorem pk6 : Pk (a1 :: a2 :: a3 :: a4 :: a5 :: a6 :: T) T := pkd pk5
theorem pk7 : Pk (a1 :: a2 :: a3 :: a4 :: a5 :: a6 :: a7 :: T) T := pkd pk6
theorem pk8 : Pk (a1 :: a2 :: a3 :: a4 :: a5 :: a6 :: a7 :: a8 :: T) T := pkd pk7
theorem pk9 : Pk (a1 :: a2 :: a3 :: a4 :: a5 :: a6 :: a7 :: a8 :: a9 :: T) T := pkd pk8
end
inductive Tl : List Rs → List Rs → Prop where
  | z {L : List Rs} : Tl L L
  | s {L T : List Rs} {x : Rs} : Tl L T → Tl (x :: L) T
section
variable {T : List Rs} {a1 a2 a3 a4 a5 a6 a7 a8 a9 : Rs}
theorem tl0 : Tl T T := .z
theorem tl1 : Tl (a1 :: T) T := .s tl0
theorem tl2 : Tl (a1 :: a2 :: T) T := .s tl1
theorem tl3 : Tl (a1 :: a2 :: a3 :: T) T := .s tl2
theorem tl4 : Tl (a1 :: a2 :: a3 :: a4 :: T) T := .s tl3
theorem tl5 : Tl (a1 :: a2 :: a3 :: a4 :: a5 :: T) T := .s tl4
theorem tl6 : Tl (a1 :: a2 :: a3 :: a4 :: a5 :: a6 :: T) T := .s tl5
theorem tl7 : Tl (a1 :: a2 :: a3 :: a4 :: a5 :: a6 :: a7 :: T) T := .s tl6
theorem tl8 : Tl (a1 :: a2 :: a3 :: a4 :: a5 :: a6 :: a7 :: a8 :: T) T := .s tl7
theorem tl9 : Tl (a1 :: a2 :: a3 :: a4 :: a5 :: a6 :: a7 :: a8 :: a9 :: T) T := .s tl8
end
section
variable {Q : Post} {T : List Rs}
theorem k_joinT (J : List Rs → Env → Heap → Prop) {c : Code} {k : List Kn} (_ : St E L I h) (_ : Tl L T) (hx : kwp P N (thenQ (J T) (kQ P N Q k)) [.c c] ρ h) (hy : ∀ ρ h, J T ρ h → kwp P N Q k ρ h) : kwp P N Q (.c c :: k) ρ h := k_join (J T) hx hy
theorem k_jF {τ : Type} {A B : Option τ} {f : (Bool → Option τ) → Option τ} {r : τ} {c : Code} {k : List Kn} (H : letJ (fun x : Bool => bif x then A else B) f = some r) (hs : St E L I h) (F : Bool → Env)
    (q : ∀ j : Bool → Option τ, f j = some r → kwp P N (thenQ (fun ρ h => ∃ (x : Bool) (I : Gh), j x = some r ∧ Fits (F x) ρ ∧ St E L I h) (kQ P N Q k)) [.c c] ρ h)
    (qf : ∀ ρ h I, B = some r → St E L I h → kwp P N Q k (F false ++ ρ) h) (qt : ∀ ρ h I, A = some r → St E L I h → kwp P N Q k (F true ++ ρ) h) (hb : rb k = true := by rfl) : kwp P N Q (.c c :: k) ρ h := by
  refine k_join _ (q _ H) ?_
  rintro ρ h ⟨x, I, H, hf, hs⟩
  refine k_fits _ hf ?_ hb
  cases x with
  | false => exact qf ρ h I H hs
  | true => exact qt ρ h I H hs
theorem k_jT {τ : Type} {A B : Option τ} {f : (Bool → Option τ) → Option τ} {r : τ} {c : Code} {k : List Kn} (H : letJ (fun x : Bool => bif x then A else B) f = some r) (hs : St E L I h) (F : Bool → Env)
    (q : ∀ j : Bool → Option τ, f j = some r → kwp P N (thenQ (fun ρ h => ∃ (x : Bool) (I : Gh), j x = some r ∧ Fits (F x) ρ ∧ St E L I h) (kQ P N Q k)) [.c c] ρ h)
    (qt : ∀ ρ h I, A = some r → St E L I h → kwp P N Q k (F true ++ ρ) h) (qf : ∀ ρ h I, B = some r → St E L I h → kwp P N Q k (F false ++ ρ) h) (hb : rb k = true := by rfl) : kwp P N Q (.c c :: k) ρ h := k_jF H hs F q qf qt hb
theorem k_loopT (_ : St E L I h) (_ : Tl L T) (id : Nat) (J0 : List Rs → Nat → Env → Heap → Prop) (J : List Rs → Env → Heap → Prop) {c : Code} {k k' : List Kn} (n : Nat) (h0 : J0 T n ρ h)
    (round : ∀ n ρ h, J0 T n ρ h → kwp P N (loopQ id (fun ρ h => ∃ m, m < n ∧ J0 T m ρ h) (J T) (kQ P N Q k)) [.c c] ρ h)
    (hu : unw id k = some k') (rest : ∀ ρ h, J T ρ h → kwp P N Q k' ρ h) : kwp P N Q (.c (.loop c) :: k) ρ h := k_loop id (J0 T) (J T) n h0 round hu rest
theorem k_loopRT (_ : St E L I h) (_ : Tl L T) (J0 : List Rs → Nat → Env → Heap → Prop) {c : Code} {k : List Kn} (n : Nat) (h0 : J0 T n ρ h)
    (round : ∀ n ρ h, J0 T n ρ h → kwp P N (thenQ (fun ρ h => ∃ m, m < n ∧ J0 T m ρ h) (kQ P N Q k)) [.c c] ρ h) : kwp P N Q (.c (.loop c) :: k) ρ h := k_loopR (J0 T) n h0 round
end
theorem si {α : Type} {a b : α} (h : some a = some b) : a = b := Option.some.inj h
abbrev iv (x : Int) : Value := .int .i64 x
abbrev pv (b : Nat) : Value := .pointer (some ⟨b, 0, none⟩)
abbrev sa (b : Nat) : Option Addr := some ⟨b, 0, none⟩
theorem ft {L ρ : Env} (h : (L.map fun p => get ρ p.1) = L.map (·.2) := by kernel_rfl) : Fits L ρ := by
  induction L with
  | nil => trivial
  | cons p L ih => simp only [List.map_cons] at h; exact ⟨(List.cons.inj h).1, ih (List.cons.inj h).2⟩
theorem sN0 {b : Nat} {cs : List Value} {e : TypeId} {x vx : Operand} {t : TypeId} (hs : St E (rB b cs e :: L) I h) (vs : List Value) (hone : ∀ v ∈ vs, v.oneCell' = true) (q : ∀ h', St E (rB b vs e :: L) I h' → K (put N ρ dst undef) h') (hl : vs.length = cs.length := by rfl)
    (hx : ev N ρ x = .pointer (some ⟨b, 0, none⟩) := by kernel_rfl) (hv : ev N ρ vx = .agg vs.toArray := by kernel_rfl) (hm : pureRun P (sizeOf t) = some vs.length := by kernel_rfl) : owp P N ⟨dst, .store t x vx, ty, pos, aft, g⟩ ρ h K :=
  sN hs 0 vs vs hone q (by rw [List.take_zero, Nat.zero_add, List.drop_of_length_le (Nat.le_of_eq hl.symm)]; simp) (by rw [Nat.zero_add]; exact Nat.ble_eq_true_of_le (Nat.le_of_eq hl)) hx hv hm
def gz {α : Type} (x : Int) (z : α) : Option (List α) := if 0 < x ∧ x ≤ 1000000 then some (List.replicate x.toNat z) else none
theorem aZ {t tn e : TypeId} {x y : Operand} {kn : IntKind} (z : α) (v : Value) (hs : St E L I h) {z' : Int} {l : List α} (m : gz z' z = some l)
    (q : ∀ b' cap' h', St E (rO T .i (some ⟨b', 0, none⟩) cap' l.length l :: L) I h' → K (put N ρ dst (.slice (some ⟨b', 0, none⟩) l.length cap')) h')
    (hrep : ∀ G h, T.rep G h [v] z) (hT : T.size = 1 := by kernel_rfl)
    (hu : P.underlying t = some (.slice e) := by kernel_rfl) (htn : P.underlying tn = some (.int kn) := by kernel_rfl) (he : elemChk P e 1 1 = true := by kernel_rfl) (hz : ((P.info? e).bind (·.zero)).map (·.cells) = some #[v] := by kernel_rfl)
    (hx : ev N ρ x = .slice none 0 0 := by kernel_rfl) (hy : ev N ρ y = .int kn z' := by kernel_rfl) : owp P N ⟨dst, .call ⟨.builtin .append, #[x, y], #[t, tn]⟩, ty, pos, aft, g⟩ ρ h K := by
  unfold gz at m
  by_cases hc : 0 < z' ∧ z' ≤ 1000000
  · rw [if_pos hc] at m
    obtain rfl := Option.some.inj m
    obtain ⟨k, rfl⟩ := Int.eq_ofNat_of_zero_le (Int.le_of_lt hc.1)
    refine owp_appendZn (k := k) z v hs (by omega) (by omega) (fun b' cap' h' hs => ?_) hrep hT hu htn he hz hx hy
    have := q b' cap' h'
    simp only [List.length_replicate] at this
    exact this hs
  · rw [if_neg hc] at m; cases m
theorem pr_int {s : Sem Next} {k : IntKind} {a b : Int} (hp : pureRun P s = some (.value (.int k a))) (e : a = b) : pureRun P s = some (.value (.int k b)) := e ▸ hp
end
def mget {α : Type} : List (Int × α) → Int → Option α
  | [], _ => none
  | e :: m, k => if k = e.1 then some e.2 else mget m k
def mput {α : Type} : List (Int × α) → Int → α → List (Int × α)
  | [], k, v => [(k, v)]
  | e :: m, k, v => if k = e.1 then (e.1, v) :: m else e :: mput m k v
def mdel {α : Type} : List (Int × α) → Int → List (Int × α)
  | [], _ => []
  | e :: m, k => if k = e.1 then m else e :: mdel m k
inductive Ents {α : Type} (T : Ty α) (I : Gh) (h : Heap) : List MapEntry → List (Int × α) → Prop where
  | n : Ents T I h [] []
  | c {k : Int} {cs : List Value} {x : α} {b : Nat} {es : List MapEntry} {m : List (Int × α)} : T.rep I h cs x → Ents T I h es m → Ents T I h (⟨.int .i64 k, .agg cs.toArray, b⟩ :: es) ((k, x) :: m)
theorem Ents.up {α : Type} {T : Ty α} {I I' : Gh} {h h' : Heap} {es : List MapEntry} {m : List (Int × α)} (u : Up I h I' h') (r : Ents T I h es m) : Ents T I' h' es m := by
  induction r with
  | n => exact .n
  | c x _ ih => exact .c (T.up u x) ih
def rM {α : Type} (T : Ty α) (b : Nat) (m : List (Int × α)) : Rs :=
  ⟨One b, fun _ I h => ∃ es clock, h[b]? = some (.map es clock) ∧ Ents T I h es.toList m, fun u _ hF e => by
    obtain ⟨es, cl, h1, h2⟩ := e
    exact ⟨es, cl, (hF b rfl).trans h1, h2.up u⟩, fun _ e => e, true, fun _ _ _ _ _ e => e⟩
section
variable {α : Type} {T : Ty α} {I : Gh} {h : Heap}
theorem find_int {es : List MapEntry} {m : List (Int × α)} (r : Ents T I h es m) (k : Int) : ∀ i, (mget m k = none ∧ Instr.findNow (.int .i64) (.int .i64 k) es i = some none) ∨
    ∃ j cs x b, mget m k = some x ∧ Instr.findNow (.int .i64) (.int .i64 k) es i = some (some (i + j, .agg cs.toArray)) ∧ es[j]? = some ⟨.int .i64 k, .agg cs.toArray, b⟩ ∧ T.rep I h cs x ∧
      Ents T I h (es.eraseIdx j) (mdel m k) ∧ ∀ cs' x', T.rep I h cs' x' → Ents T I h (es.set j ⟨.int .i64 k, .agg cs'.toArray, b⟩) (mput m k x') := by
  induction r with
  | n => intro i; exact .inl ⟨rfl, rfl⟩
  | @c k' cs x b es m hx hr ih =>
    intro i
    unfold mget Instr.findNow
    simp only [Instr.sameNow, if_true]
    by_cases e : k = k'
    · subst e
      right
      refine ⟨0, cs, x, b, by rw [if_pos rfl], by simp, rfl, hx, ?_, fun cs' x' h' => ?_⟩
      · unfold mdel; rw [if_pos rfl]; exact hr
      · unfold mput; rw [if_pos rfl]; exact .c h' hr
    · rw [if_neg e]
      have e2 : (k == k') = false := by simpa using e
      simp only [e2]
      rcases ih (i + 1) with ⟨h1, h2⟩ | ⟨j, cs2, x2, b2, h1, h2, h3, h4, h5, h6⟩
      · exact .inl ⟨h1, h2⟩
      · right
        refine ⟨j + 1, cs2, x2, b2, h1, by rw [h2]; congr 3; omega, by simpa using h3, h4, ?_, fun cs' x' h' => ?_⟩
        · unfold mdel; rw [if_neg e]; exact .c hx h5
        · unfold mput; rw [if_neg e]; exact .c hx (h6 cs' x' h')
theorem ents_push {es : List MapEntry} {m : List (Int × α)} (r : Ents T I h es m) {k : Int} (hk : mget m k = none) {cs : List Value} {x : α} (b : Nat) (hx : T.rep I h cs x) : Ents T I h (es ++ [⟨.int .i64 k, .agg cs.toArray, b⟩]) (mput m k x) := by
  induction r with
  | n => exact .c hx .n
  | @c k' cs2 x2 b2 es m h2 hr ih =>
    unfold mget at hk
    by_cases e : k = k'
    · rw [if_pos e] at hk; cases hk
    · rw [if_neg e] at hk
      unfold mput; rw [if_neg e]; exact .c h2 (ih hk)
end
section
variable {P : Program} {N : Nat} {ρ : Env} {h : Heap} {K : Env → Heap → Prop} {α : Type} {T : Ty α} {E : En} {L L' : List Rs} {I : Gh} {b : Nat} {m : List (Int × α)}
variable {dst : Option Tmp} {t ty kt et : TypeId} {pos : String} {aft : Array Edge} {g : Option (Nat × Bool)} {x ix vx : Operand}
theorem pst_map {w : World} (hB : Bd I w.heap) (o : Obj) (ho : UnO o) : Pst (One b) I w.heap I (w.putObj b o).heap where
  sub _ x := x
  new _ x := .inl x
  bd d y := by have := hB d y; simpa [World.putObj] using this
  size := by simp [World.putObj]
  keep d _ hm := by simp only [World.putObj]; rw [Array.getElem?_setIfInBounds_ne (fun e => hm e.symm)]
  un d y o' e := by
    simp only [World.putObj] at e
    by_cases hd : b = d
    · subst hd
      rw [Array.getElem?_setIfInBounds] at e
      split at e
      · split at e
        · obtain rfl := Option.some.inj e; exact ho
        · cases e
      · rename_i hn; exact absurd rfl hn
    · rw [Array.getElem?_setIfInBounds_ne hd] at e; exact un_refl d y o' e
theorem St.mapped (hs : St E (rM T b m :: L) I h) {w : World} (hw : w.heap = h) {es : Array MapEntry} {cl : Nat} {m' : List (Int × α)} (r : Ents T I h es.toList m') : St E (rM T b m' :: L) I (w.putObj b (.map es cl)).heap := by
  subst hw
  have p := pst_map (b := b) (I := I) hs.bd (Obj.map es cl) trivial
  obtain ⟨es0, cl0, h1, _⟩ := hs.g d0
  have hlt : b < w.heap.size := lt_of_some h1
  refine hs.upd p ⟨es, cl, by simp [World.putObj, hlt], ?_⟩ fun d y => ⟨.inl y, ?_, (hs.sep.1.2.1 d y).2⟩
  · exact r.up (p.up hs.bd fun d y => (hs.sep.1.2.1 d y).2)
  · have := (hs.sep.1.2.1 d y).1
    exact Nat.lt_of_lt_of_le this p.size
theorem mL (hs : St E L I h) (d : Del L (rM T b m) L') (k : Int) (zv : Value)
    (q0 : mget m k = none → K (put N ρ dst (.tuple #[zv, .bool false])) h) (q1 : ∀ y cs, mget m k = some y → T.rep I h cs y → K (put N ρ dst (.tuple #[.agg cs.toArray, .bool true])) h)
    (hu : P.underlying t = some (.map kt et) := by kernel_rfl) (hk : P.underlying kt = some (.int .i64) := by kernel_rfl) (hz : pureRun P (zeroValue et) = some zv := by kernel_rfl)
    (hx : ev N ρ x = .map (some b) := by kernel_rfl) (hix : ev N ρ ix = .int .i64 k := by kernel_rfl) : owp P N ⟨dst, .lookup t x ix true, ty, pos, aft, g⟩ ρ h K := by
  obtain ⟨es, cl, h1, h2⟩ := hs.g d
  have hck : ∀ (em : Bool) (w : World), (Instr.checkKey em 10000 kt (.int .i64 k)).run P w = .ok () w := fun em w => by
    unfold Instr.checkKey; simp [run_underlying hk]
  have hzr := pureRun_run hz
  rcases find_int h2 k 0 with ⟨e1, e2⟩ | ⟨j, cs, y, b2, e1, e2, e3, e4, _⟩
  · refine owp_val (fun w hw => ⟨w, ?_, Same.refl w, hw⟩) (q0 e1)
    subst hw
    simp only [execOp, hx, hix]
    simp [Instr.lookup, run_underlying hu, getObj, Sem.run, h1, hck, Instr.findKey, run_underlying hk, e2, hzr]
  · refine owp_val (fun w hw => ⟨w, ?_, Same.refl w, hw⟩) (q1 y cs e1 e4)
    subst hw
    simp only [execOp, hx, hix]
    simp [Instr.lookup, run_underlying hu, getObj, Sem.run, h1, hck, Instr.findKey, run_underlying hk, e2]
theorem check_int {kt : TypeId} (hk : P.underlying kt = some (.int .i64)) (k : Int) (em : Bool) (w : World) : (Instr.checkKey em 10000 kt (.int .i64 k)).run P w = .ok () w := by
  unfold Instr.checkKey; simp [run_underlying hk]
theorem toList_modify {es : Array MapEntry} {j : Nat} {e : MapEntry} (f : MapEntry → MapEntry) (h : es.toList[j]? = some e) : (es.modify j f).toList = es.toList.set j (f e) := by
  rw [Array.toList_modify]
  apply List.ext_getElem?
  intro i
  rw [List.getElem?_modify, List.getElem?_set]
  by_cases hi : j = i
  · subst hi
    have hl : j < es.toList.length := (List.getElem?_eq_some_iff.1 h).1
    rw [h, if_pos rfl, if_pos hl]
    show some (if j = j then f e else e) = some (f e)
    rw [if_pos rfl]
  · rw [if_neg hi]
    cases es.toList[i]? with
    | none => rfl
    | some z => show some (if j = i then f z else z) = some z; rw [if_neg hi]
theorem mU (hs : St E (rM T b m :: L) I h) (k : Int) (cs : List Value) (y : α) (hy : T.rep I h cs y) (q : ∀ h', St E (rM T b (mput m k y) :: L) I h' → K (put N ρ dst undef) h')
    (hu : P.underlying t = some (.map kt et) := by kernel_rfl) (hk : P.underlying kt = some (.int .i64) := by kernel_rfl)
    (hx : ev N ρ x = .map (some b) := by kernel_rfl) (hix : ev N ρ ix = .int .i64 k := by kernel_rfl) (hv : ev N ρ vx = .agg cs.toArray := by kernel_rfl) : owp P N ⟨dst, .mapUpdate t x ix vx, ty, pos, aft, g⟩ ρ h K := by
  obtain ⟨es, cl, h1, h2⟩ := hs.g d0
  have hck := check_int hk k
  rcases find_int h2 k 0 with ⟨e1, e2⟩ | ⟨j, cs', y', b2, e1, e2, e3, e4, _, e6⟩
  · refine owp_skip (h' := (h.setIfInBounds b (.map (es.push ⟨.int .i64 k, .agg cs.toArray, cl⟩) (cl + 1)))) (fun w hw => ⟨w.putObj b (.map (es.push ⟨.int .i64 k, .agg cs.toArray, cl⟩) (cl + 1)), ?_, ⟨rfl, rfl, rfl⟩, by rw [← hw]; rfl⟩) ?_
    · subst hw
      simp only [execOp, hx, hix, hv]
      simp [Instr.mapUpdate, run_underlying hu, getObj, setObj, Sem.run, h1, hck, Instr.findKey, run_underlying hk, e2, World.putObj]
    · have := hs.mapped (w := { (default : World) with heap := h }) rfl (es := es.push ⟨.int .i64 k, .agg cs.toArray, cl⟩) (cl := cl + 1) (by rw [Array.toList_push]; exact ents_push h2 e1 cl hy)
      exact q _ this
  · have hm := toList_modify (fun e => { e with key := .int .i64 k, val := .agg cs.toArray }) e3
    refine owp_skip (h' := (h.setIfInBounds b (.map (es.modify j fun e => { e with key := .int .i64 k, val := .agg cs.toArray }) cl))) (fun w hw => ⟨w.putObj b (.map (es.modify j fun e => { e with key := .int .i64 k, val := .agg cs.toArray }) cl), ?_, ⟨rfl, rfl, rfl⟩, by rw [← hw]; rfl⟩) ?_
    · subst hw
      simp only [execOp, hx, hix, hv]
      have e3' : es[j]? = some ⟨.int .i64 k, .agg cs'.toArray, b2⟩ := by simpa using e3
      simp [Instr.mapUpdate, run_underlying hu, getObj, setObj, Sem.run, h1, hck, Instr.findKey, run_underlying hk, e2, World.putObj, e3', Instr.keyThatStays, Instr.sameBits]
    · have := hs.mapped (w := { (default : World) with heap := h }) rfl (es := es.modify j fun e => { e with key := .int .i64 k, val := .agg cs.toArray }) (cl := cl) (by rw [hm]; exact e6 cs y hy)
      exact q _ this
theorem mD (hs : St E (rM T b m :: L) I h) (k : Int) {kt' : TypeId} (q : ∀ h', St E (rM T b (mdel m k) :: L) I h' → K (put N ρ dst (.tuple #[])) h')
    (hu : P.underlying t = some (.map kt et) := by kernel_rfl) (hk : P.underlying kt = some (.int .i64) := by kernel_rfl)
    (hx : ev N ρ x = .map (some b) := by kernel_rfl) (hix : ev N ρ ix = .int .i64 k := by kernel_rfl) : owp P N ⟨dst, .call ⟨.builtin .delete, #[x, ix], #[t, kt']⟩, ty, pos, aft, g⟩ ρ h K := by
  obtain ⟨es, cl, h1, h2⟩ := hs.g d0
  have hck := check_int hk k
  rcases find_int h2 k 0 with ⟨e1, e2⟩ | ⟨j, cs', y', b2, e1, e2, e3, e4, e5, e6⟩
  · refine owp_val (v := .tuple #[]) (h' := (h.setIfInBounds b (.map es cl))) (fun w hw => ⟨w.putObj b (.map es cl), ?_, ⟨rfl, rfl, rfl⟩, by rw [← hw]; rfl⟩) ?_
    · subst hw
      simp only [execOp, resolve]
      simp [invoke, builtin, hx, hix, Builtin.delete_, run_underlying hu, getObj, setObj, Sem.run, h1, hck, Instr.findKey, run_underlying hk, e2, World.putObj]
    · have hd : mdel m k = m := by
        clear e2 h2 hck h1
        induction m with
        | nil => rfl
        | cons e m ih =>
          unfold mget at e1
          unfold mdel
          by_cases hk2 : k = e.1
          · rw [if_pos hk2] at e1; cases e1
          · rw [if_neg hk2] at e1 ⊢
            have : mdel m k = m := by
              have ih' : ∀ (m : List (Int × α)), mget m k = none → mdel m k = m := by
                intro m
                induction m with
                | nil => intro _; rfl
                | cons e m ih => intro h; unfold mget at h; unfold mdel; by_cases hk : k = e.1; rw [if_pos hk] at h; cases h; rw [if_neg hk] at h ⊢; rw [ih h]
              exact ih' m e1
            rw [this]
      have := hs.mapped (w := { (default : World) with heap := h }) rfl (es := es) (cl := cl) (m' := mdel m k) (by rw [hd]; exact h2)
      exact q _ this
  · refine owp_val (v := .tuple #[]) (h' := (h.setIfInBounds b (.map (es.eraseIdxIfInBounds j) cl))) (fun w hw => ⟨w.putObj b (.map (es.eraseIdxIfInBounds j) cl), ?_, ⟨rfl, rfl, rfl⟩, by rw [← hw]; rfl⟩) ?_
    · subst hw
      simp only [execOp, resolve]
      simp [invoke, builtin, hx, hix, Builtin.delete_, run_underlying hu, getObj, setObj, Sem.run, h1, hck, Instr.findKey, run_underlying hk, e2, World.putObj]
    · have hl : j < es.size := by have := (List.getElem?_eq_some_iff.1 e3).1; simpa using this
      have := hs.mapped (w := { (default : World) with heap := h }) rfl (es := es.eraseIdxIfInBounds j) (cl := cl) (m' := mdel m k) (by
        unfold Array.eraseIdxIfInBounds
        rw [dif_pos hl, Array.toList_eraseIdx]; exact e5)
      exact q _ this
theorem mN {I : Gh} (T : Ty α) (hs : St E L I h) (q : ∀ b h', St E (rM T b [] :: L) I h' → K (put N ρ dst (.map (some b))) h') : owp P N ⟨dst, .makeMap t none, ty, pos, aft, g⟩ ρ h K := by
  refine owp_val (v := .map (some h.size)) (h' := h.push (.map #[] 0)) (fun w hw => ⟨w.alloc (.map #[] 0), ?_, ⟨rfl, rfl, rfl⟩, by rw [← hw]; rfl⟩) ?_
  · subst hw; rfl
  · refine q _ _ (hs.new (post_push hs.bd _ trivial) ⟨#[], 0, by simp, .n⟩ fun d y => ?_)
    obtain rfl : d = h.size := y
    exact ⟨Nat.le_refl _, by simp, fun z => absurd (hs.bd _ z) (Nat.lt_irrefl _)⟩
end
end Go.Proofs.YtjkbhpokboolpaaGreatDoor.Sx
