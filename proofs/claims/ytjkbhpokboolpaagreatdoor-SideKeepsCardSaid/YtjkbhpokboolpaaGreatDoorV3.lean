import Derived.Test.YtjkbhpokboolpaaGreatDoorV2
namespace Go.Proofs.YtjkbhpokboolpaaGreatDoor.Sx
open Go
section
variable {P : Program} {N : Nat} {Q : Post} {ρ : Env} {h : Heap} {K : Env → Heap → Prop}
variable {dst : Option Tmp} {ty : TypeId} {pos : String} {aft : Array Edge} {g : Option (Nat × Bool)}
variable {E : En} {L L' : List Rs} {I : Gh} {n b o0 : Nat} {cs : List Value} {t e : TypeId} {x vx : Operand} {ik : IntKind} {l l2 : List Int} {i : Int}
theorem sA (hs : St E (rB b (l.map (Value.int ik)) e :: L) I h) (v : Int) (hl : l.length = n) (h0 : 0 ≤ i) (h1 : i < (n : Int)) (q : ∀ h', St E (rB b ((l.set i.toNat v).map (Value.int ik)) e :: L) I h' → K (put N ρ dst undef) h')
    (hx : ev N ρ x = elemPtr (some ⟨b, 0, none⟩) (i.toNat * 1) := by kernel_rfl) (hv : ev N ρ vx = .int ik v := by kernel_rfl) (hm : pureRun P (sizeOf t) = some 1 := by kernel_rfl) : owp P N ⟨dst, .store t x vx, ty, pos, aft, g⟩ ρ h K :=
  owp_storeArr v hs.bd (hs.bl d0) hl h0 h1 hx hv hm fun h' p o => q h' (hs.upd p o.at_ (fun d y => ⟨.inl y, by obtain rfl : d = b := y; exact ⟨o.lt, o.no⟩⟩))
theorem sAN (hs : St E (rB b (l.map (Value.int ik)) e :: L) I h) (hl : l.length = n) (hl2 : l2.length = n) (q : ∀ h', St E (rB b (l2.map (Value.int ik)) e :: L) I h' → K (put N ρ dst undef) h')
    (hx : ev N ρ x = .pointer (some ⟨b, 0, none⟩) := by kernel_rfl) (hv : ev N ρ vx = .agg (l2.map (Value.int ik)).toArray := by kernel_rfl) (hm : pureRun P (sizeOf t) = some n := by kernel_rfl) : owp P N ⟨dst, .store t x vx, ty, pos, aft, g⟩ ρ h K :=
  owp_storeArrN hs.bd (hs.bl d0) hl hl2 hx hv hm fun h' p o => q h' (hs.upd p o.at_ (fun d y => ⟨.inl y, by obtain rfl : d = b := y; exact ⟨o.lt, o.no⟩⟩))
theorem sAO (hs : St E (rB b cs e :: L) I h) (pre : List Value) (l : List Int) (post : List Value) (v : Int) (ec : cs = pre ++ (l.map (Value.int ik) ++ post)) (ho : pre.length = o0) (h0 : 0 ≤ i) (h1 : i < (l.length : Int))
    (q : ∀ h', St E (rB b (pre ++ ((l.set i.toNat v).map (Value.int ik) ++ post)) e :: L) I h' → K (put N ρ dst undef) h')
    (hx : ev N ρ x = elemPtr (some ⟨b, o0, none⟩) (i.toNat * 1) := by kernel_rfl) (hv : ev N ρ vx = .int ik v := by kernel_rfl) (hm : pureRun P (sizeOf t) = some 1 := by kernel_rfl) : owp P N ⟨dst, .store t x vx, ty, pos, aft, g⟩ ρ h K :=
  owp_storeArrO pre l post v hs.bd (hs.bl d0) ec ho h0 h1 hx hv hm fun h' p o => q h' (hs.upd p o.at_ (fun d y => ⟨.inl y, by obtain rfl : d = b := y; exact ⟨o.lt, o.no⟩⟩))
theorem St.grow {I' : Gh} {h' : Heap} (hs : St E L I h) (p : Pst No I h I' h') : St E L I' h' := by
  have hM : ∀ b, No b → SF L b := fun b x => x.elim
  have hk : ∀ b, SF L b → h'[b]? = h[b]? ∧ ¬ I' b := fun b x => by
    have hl := hs.sep.lt b x
    exact ⟨p.keep b hl.1 (fun y => y), p.notIn hl.2 (fun y => y) hl.1⟩
  exact ⟨hs.pst.no p, hs.bB, hs.mB, hs.sep.mono (hs.upM p hM) (hs.keepB p hM) hk p.size, hs.nw⟩
theorem St.dup {r : Rs} (hs : St E L I h) (d : Del L r L') (hF : ∀ b, ¬ r.F b) : St E (r :: L) I h := hs.pers (d.sep hs.sep).1.1 hF
theorem St.add {r : Rs} (hs : St E L I h) (im : Im emp r) : St E (r :: L) I h := hs.pers (im.2 trivial) (fun b x => (im.1 b x).elim)
theorem St.f2 {r r' : Rs} (hs : St E (r :: L) I h) (im : Im r r') : St E (r' :: L) I h := hs.imp (im.2 (hs.g d0)) im.1
theorem pSA {α : Type} {l : List α} {lo hi : Int} {o : Oper} {a : Option Addr} {c : Nat} (m : Nat) (h2 : hi ≤ (l.length : Int)) (hm : hi.toNat - lo.toNat = m := by kernel_rfl) (hr : pureRun P (execOp (ev N ρ) o) = some (.value (.slice a m c)) := by kernel_rfl) :
    pureRun P (execOp (ev N ρ) o) = some (.value (.slice a (sub l lo hi).length c)) := by rw [sub_length h2, hm]; exact hr
theorem seg_ats {ik : IntKind} {l : List Int} {n : Nat} {X : Option (List Value)} {cs : List Value} (hl : l.length = n) (q : X = some cs) (e : cs = (List.range n).map fun (j : Nat) => Value.int ik (at_ l (j : Int)) := by kernel_rfl) : X = some (l.map (Value.int ik)) := by
  rw [q, e]; subst hl; congr 1
  refine List.ext_getElem (by simp) fun i h1 h2 => ?_
  simp only [List.length_map] at h2
  simp [at_, h2]
theorem sub_len {α : Type} {l : List α} {lo hi : Int} (m : Nat) (h2 : hi ≤ (l.length : Int)) (hm : hi.toNat - lo.toNat = m := by kernel_rfl) : (sub l lo hi).length = m := (sub_length h2).trans hm
theorem Reps.ints {k : IntKind} {G : Gh} {cs : List Value} {l : List Int} (r : Reps (tInt k) G h cs l) : cs = l.map (Value.int k) := by
  induction r with
  | nil => rfl
  | cons hx _ ih => rw [ih]; have := hx; simp only [tInt] at this; rw [this]; rfl
theorem Sn.segInt {k : IntKind} {G : Gh} {a : Option Addr} {c n m : Nat} {l : List Int} (s : Sn (tInt k) G h a c n l) (hl : l.length = m) (hp : 0 < m) : segAt h a 0 m = some (l.map (Value.int k)) := by
  cases a with
  | none => have := (s.toSl.nil rfl).1; subst this; simp at hl; omega
  | some ad =>
    have hle := s.toSl.le
    obtain ⟨c', t, fr, hb, _, hf, hle', r⟩ := s.toSl.reps ad rfl (by omega)
    have h1 : l.length * (tInt k).size = m := by rw [hl]; simp [tInt]
    have h2 : c * (tInt k).size = c := by simp [tInt]
    rw [h1] at r; rw [h2] at hf
    unfold segAt; simp only [hb]; rw [if_pos (by omega)]
    rw [Nat.add_zero, r.ints]
theorem pAP {α : Type} {T : Ty α} {G : Gh} {h : Heap} {a : Option Addr} {c n : Nat} {m : Nat} {ta et : TypeId} {l : List α} (s : Sn T G h a c n l) (hl : l.length = m) (hp : 0 < m) (hx : ev N ρ x = .slice a n c := by kernel_rfl) (hu : P.underlying ta = some (.array m et) := by kernel_rfl) :
    pureRun P (execOp (ev N ρ) ⟨dst, .sliceToArrayPointer ta x, ty, pos, aft, g⟩) = some (.value (elemPtr a 0)) := by
  cases a with
  | none => have := (s.toSl.nil rfl).1; subst this; simp at hl; omega
  | some ad =>
    have hle := s.toSl.le
    have hsp := (s.toSl.some_ ad rfl (by omega)).1
    obtain ⟨b, o, sp⟩ := ad
    obtain rfl : sp = none := hsp
    have hn := s.len
    simp only [execOp, hx]
    refine (pureRun_bind' (x := elemPtr (some ⟨b, o, none⟩) 0) ?_).trans rfl
    unfold Instr.arrayAt
    rw [pureRun_bind' (pureRun_underlying hu)]
    simp only
    rw [if_neg (by omega)]
    rfl
theorem cvO {b c : Nat} {d2 : TypeId} {l : List Int} (hs : St E (rO (tInt .u8) .i (some ⟨b, 0, none⟩) c n l :: L) I h)
    (q : ∀ I' h', St E (rR (tInt .u8) .i (some ⟨b, 0, none⟩) c n l :: L) I' h' → K (put N ρ dst (.slice (some ⟨b, 0, none⟩) n c)) h')
    (hx : ev N ρ x = .slice (some ⟨b, 0, none⟩) n c := by kernel_rfl) (h2 : P.underlying d2 = some (.slice e) := by kernel_rfl) (h3 : P.underlying e = some (.int .u8) := by kernel_rfl) :
    owp P N ⟨dst, .convert d2 d2 x, ty, pos, aft, g⟩ ρ h K := by
  intro w ac ha hh K' hK
  subst hh
  have hg := hs.g d0
  obtain ⟨_, cc, t, hb, hsz⟩ := hg.1.2.ow _ rfl
  simp only at hb hsz
  have hlt : b < w.heap.size := (Array.getElem?_eq_some_iff.1 hb).1
  have hrun : (execOp ac.eval ⟨dst, .convert d2 d2 x, ty, pos, aft, g⟩).run P w = .ok (.value (.slice (some ⟨b, 0, none⟩) n c)) (w.freeze ⟨b, cc.size, none⟩ 1) := by
    rw [ha.eval]; simp only [execOp, hx]
    simp [convert, run_underlying h2, run_underlying h3, markStringish, World.shape?, hb]
  unfold xwp
  rw [hrun]
  have hhp : (w.freeze ⟨b, cc.size, none⟩ 1).heap = w.heap.modify b fun | .cells c elem (lo, hi) => .cells c elem (if lo == hi then (cc.size, cc.size + 1) else (min lo cc.size, max hi (cc.size + 1))) | o => o := rfl
  have hb' : (w.freeze ⟨b, cc.size, none⟩ 1).heap[b]? = some (.cells cc t (cc.size, cc.size + 1)) := by
    rw [hhp, Array.getElem?_modify, if_pos rfl, hb]; rfl
  have ho : ∀ d, d ≠ b → (w.freeze ⟨b, cc.size, none⟩ 1).heap[d]? = w.heap[d]? := fun d hd => by
    rw [hhp, Array.getElem?_modify, if_neg (fun y => hd y.symm)]
  have hz : (w.freeze ⟨b, cc.size, none⟩ 1).heap.size = w.heap.size := by rw [hhp, Array.size_modify]
  refine hK _ _ _ (ha.put _ _) (put_defers _ _ _) ⟨rfl, rfl, rfl⟩ (q (Or2 I (InA (some (⟨b, 0, none⟩ : Addr)))) _ ?_)
  refine hs.upd ⟨fun _ y => .inl y, fun _ y => y.imp id .inl, fun d y => ?_, Nat.le_of_eq hz.symm, fun d _ y => ho d fun z => y ?_, fun d x o e => ?_⟩ ⟨⟨⟨hg.1.1.nil, hg.1.1.le, fun ad y hc0 => ?_⟩, fun ad y _ => .inr ⟨ad, y, rfl⟩⟩, hg.2⟩ (fun _ y => y.elim)
  · rw [hz]; exact y.elim (hs.bd d) (fun y => by obtain rfl := inA_some y; exact hlt)
  · subst z; exact ⟨_, rfl, rfl⟩
  · by_cases hd : d = b
    · subst hd
      rw [hb'] at e
      obtain rfl := Option.some.inj e
      exact fun i hi y => absurd y.1 (Nat.not_le_of_lt hi)
    · rw [ho d hd] at e; exact un_refl d x o e
  · obtain ⟨h1, c', t', fr', hc, hf, hr⟩ := hg.1.1.some_ ad y hc0
    obtain rfl := Option.some.inj y
    have := Option.some.inj (hb.symm.trans hc)
    injection this with e1 e2 e3
    subst e1
    exact ⟨rfl, cc, t, _, hb', hf, hr⟩
def strOf (l : List Int) : ByteArray := l.foldl (fun r n => r.push (UInt8.ofNat n.toNat)) ByteArray.empty
theorem cvS {G : Gh} {a : Option Addr} {c n : Nat} {src d2 : TypeId} {l : List Int} (s : Sn (tInt .u8) G h a c n l) (q : K (put N ρ dst (.string (strOf l))) h) (hx : ev N ρ x = .slice a n c := by kernel_rfl)
    (h1 : P.underlying src = some (.slice e) := by kernel_rfl) (h3 : P.underlying e = some (.int .u8) := by kernel_rfl) (h2 : P.underlying d2 = some .string := by kernel_rfl) : owp P N ⟨dst, .convert src d2 x, ty, pos, aft, g⟩ ρ h K := by
  refine owp_val (v := .string (strOf l)) (fun w hw => ⟨w, ?_, Same.refl w, hw⟩) q
  simp only [execOp, hx]
  have hr : (convert src d2 (.slice a n c)).run P w = .ok (.string (strOf l)) w := by
    rw [run_convert_bytes_string w src d2 e a n c h1 h3 h2]
    cases a with
    | none => obtain ⟨rfl, rfl⟩ := s.toSl.nil rfl; rfl
    | some ad =>
      have hn := s.len
      have hle := s.toSl.le
      refine run_bytesToString w ad n c l ?_
      rcases Nat.eq_zero_or_pos c with h0 | h0
      · have : l = [] := List.eq_nil_of_length_eq_zero (by omega)
        subst this
        obtain rfl : n = 0 := hn.symm
        simp [loadCells, loadCellsFrom]
      · obtain ⟨c', t, fr, hb, hsp, hf, _, r⟩ := s.toSl.reps ad rfl h0
        obtain ⟨b, o, sp⟩ := ad
        obtain rfl : sp = none := hsp
        simp only at hb r
        have hl := run_loadCells_list (P := P) w ⟨b, o, none⟩ (Sx.seg c' o (l.length * (tInt .u8).size)) (cells_at (by rw [hw]; exact hb))
        rw [r.ints, List.length_map, hn] at hl
        exact hl
  simp [hr]
theorem ones_of {vs : List Value} (h : vs.all Value.oneCell' = true) : ∀ v ∈ vs, v.oneCell' = true := by simpa using h
theorem k_fin (q : Q .normal ρ h) : kwp P N Q [] ρ h := q
end
inductive All : List Rs → List Rs → Prop where
  | n : All [] []
  | r {α : Type} {T : Ty α} {k : Cl} {a : Option Addr} {c n : Nat} {l : List α} {L M : List Rs} : All L M → All (rR T k a c n l :: L) (rR T .i a c n l :: M)
  | o {α : Type} {T : Ty α} {k : Cl} {a : Option Addr} {c n : Nat} {l : List α} {L M : List Rs} : All L M → All (rO T k a c n l :: L) (rR T .i a c n l :: M)
  | e {k : Cl} {v : Value} {x : GoErr} {L M : List Rs} : All L M → All (rE k v x :: L) (rE .i v x :: M)
  | d {r : Rs} {L M : List Rs} : All L M → All (r :: L) M
theorem cl_sub {k : Cl} {B I J : Gh} (hJ : ∀ b, I b ∨ B b → J b) : ∀ b, k.G B I b → J b := by
  cases k with
  | i => exact fun b x => hJ b (.inl x)
  | b => exact fun b x => hJ b x
theorem all_sep {B I J : Gh} {h : Heap} : ∀ {L M : List Rs}, All L M → Sep B I h L → (∀ b, I b ∨ B b → J b) → (∀ b, SF L b → J b) → Sep No J h M ∧ ∀ b, ¬ SF M b := by
  intro L M a
  induction a with
  | n => exact fun _ _ _ => ⟨trivial, fun _ x => x⟩
  | r _ ih =>
    intro s h1 h2
    obtain ⟨q, z⟩ := ih s.2 h1 (fun b x => h2 b (.inr x))
    exact ⟨⟨⟨⟨s.1.1.1.mono (cl_sub h1), s.1.1.2⟩, fun _ x => x.elim, fun _ x => x.elim⟩, q⟩, fun b x => x.elim (fun y => y) (z b)⟩
  | o _ ih =>
    intro s h1 h2
    obtain ⟨q, z⟩ := ih s.2 h1 (fun b x => h2 b (.inr x))
    exact ⟨⟨⟨⟨⟨s.1.1.1.1.up (up_sub (cl_sub h1)) (fun _ _ _ => rfl), fun ad e _ => h2 _ (.inl ⟨ad, e, rfl⟩)⟩, s.1.1.2⟩, fun _ x => x.elim, fun _ x => x.elim⟩, q⟩, fun b x => x.elim (fun y => y) (z b)⟩
  | e _ ih =>
    intro s h1 h2
    obtain ⟨q, z⟩ := ih s.2 h1 (fun b x => h2 b (.inr x))
    exact ⟨⟨⟨ErrV.up (up_sub (cl_sub h1)) s.1.1, fun _ x => x.elim, fun _ x => x.elim⟩, q⟩, fun b x => x.elim (fun y => y) (z b)⟩
  | d _ ih =>
    intro s h1 h2
    exact ih s.2 h1 (fun b x => h2 b (.inr x))
theorem St.all {E : En} {L M : List Rs} {I : Gh} {h : Heap} (hs : St E L I h) (a : All L M) : ∃ J, St ⟨No, J, No, h⟩ M J h := by
  obtain ⟨q, z⟩ := all_sep (J := Or2 (Or2 I E.B) (SF L)) a hs.sep (fun b x => .inl x) (fun b x => .inr x)
  exact ⟨_, Pst.refl (fun b x => x.elim (fun x => x.elim (hs.bd b) (hs.bdB b)) (fun x => (hs.sep.lt b x).1)), fun _ x => x.elim, fun _ _ x => x, q, fun b x => absurd x (z b)⟩
theorem St.back {E : En} {L L' : List Rs} {I J I' : Gh} {h h' : Heap} (hz : St E L I h) (hs : St ⟨No, J, No, h⟩ L' I' h') : St E L I h' :=
  hz.grow ⟨fun _ x => x, fun _ x => .inl x, fun b x => Nat.lt_of_lt_of_le (hz.bd b x) hs.pst.size, hs.pst.size, hs.pst.keep, hs.pst.un⟩
theorem run_neStr {P : Program} {N : Nat} {ρ : Env} {dst : Option Tmp} {ty : TypeId} {pos : String} {aft : Array Edge} {g : Option (Nat × Bool)} {t yt : TypeId} {x y : Operand} {a b : ByteArray} (hx : ev N ρ x = .string a) (hy : ev N ρ y = .string b) (w : World) :
    (execOp (ev N ρ) ⟨dst, .binOp .neq t x y yt, ty, pos, aft, g⟩).run P w = .ok (.value (.bool (!(a == b)))) w := by
  simp [execOp, hx, hy, go_sem, beq_toListBytes]
theorem seg_sub {h : Heap} {a : Option Addr} {n m f k : Nat} {cs : List Value} (hc : segAt h a n m = some cs) (hl : Nat.ble (f + k) cs.length = true) : segAt h a (n + f) k = some ((cs.drop f).take k) := by
  have hl := Nat.le_of_ble_eq_true hl
  have hm := seg_len hc
  unfold segAt at hc ⊢
  cases a with
  | none => cases hc
  | some ad =>
    simp only at hc ⊢
    split at hc <;> rename_i heq
    · split at hc
      · rename_i hle
        obtain rfl := Option.some.inj hc
        rw [if_pos (by omega)]
        congr 1
        unfold seg
        rw [List.drop_take, List.drop_drop, List.take_take, Nat.min_eq_left (by omega), Nat.add_assoc]
      · cases hc
    · cases hc
end Go.Proofs.YtjkbhpokboolpaaGreatDoor.Sx
