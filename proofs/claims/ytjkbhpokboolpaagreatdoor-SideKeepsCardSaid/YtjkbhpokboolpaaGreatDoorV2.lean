import Derived.Test.YtjkbhpokboolpaaGreatDoorV1
namespace Go.Proofs.YtjkbhpokboolpaaGreatDoor.Sx
open Go
inductive CSet : List Value → Nat → Value → List Value → Prop where
  | z {l : List Value} {x v : Value} : CSet (x :: l) 0 v (v :: l)
  | s {l l' : List Value} {x v : Value} {n : Nat} : CSet l n v l' → CSet (x :: l) (n + 1) v (x :: l')
theorem CSet.eq {l l' : List Value} {n : Nat} {v : Value} (c : CSet l n v l') : n < l.length ∧ l' = l.set n v := by
  induction c with
  | z => exact ⟨by simp, rfl⟩
  | s _ ih => exact ⟨by simpa using ih.1, by rw [ih.2]; rfl⟩
theorem cw0 {l : List Value} {x v : Value} : CSet (x :: l) 0 v (v :: l) := .z
theorem cw1 {l : List Value} {x0 x v : Value} : CSet (x0 :: x :: l) 1 v (x0 :: v :: l) := .s cw0
theorem cw2 {l : List Value} {x0 x1 x v : Value} : CSet (x0 :: x1 :: x :: l) 2 v (x0 :: x1 :: v :: l) := .s cw1
theorem cw3 {l : List Value} {x0 x1 x2 x v : Value} : CSet (x0 :: x1 :: x2 :: x :: l) 3 v (x0 :: x1 :: x2 :: v :: l) := .s cw2
theorem cw4 {l : List Value} {x0 x1 x2 x3 x v : Value} : CSet (x0 :: x1 :: x2 :: x3 :: x :: l) 4 v (x0 :: x1 :: x2 :: x3 :: v :: l) := .s cw3
theorem cw5 {l : List Value} {x0 x1 x2 x3 x4 x v : Value} : CSet (x0 :: x1 :: x2 :: x3 :: x4 :: x :: l) 5 v (x0 :: x1 :: x2 :: x3 :: x4 :: v :: l) := .s cw4
theorem cw6 {l : List Value} {x0 x1 x2 x3 x4 x5 x v : Value} : CSet (x0 :: x1 :: x2 :: x3 :: x4 :: x5 :: x :: l) 6 v (x0 :: x1 :: x2 :: x3 :: x4 :: x5 :: v :: l) := .s cw5
theorem cw7 {l : List Value} {x0 x1 x2 x3 x4 x5 x6 x v : Value} : CSet (x0 :: x1 :: x2 :: x3 :: x4 :: x5 :: x6 :: x :: l) 7 v (x0 :: x1 :: x2 :: x3 :: x4 :: x5 :: x6 :: v :: l) := .s cw6
theorem cw8 {l : List Value} {x0 x1 x2 x3 x4 x5 x6 x7 x v : Value} : CSet (x0 :: x1 :: x2 :: x3 :: x4 :: x5 :: x6 :: x7 :: x :: l) 8 v (x0 :: x1 :: x2 :: x3 :: x4 :: x5 :: x6 :: x7 :: v :: l) := .s cw7
theorem cw9 {l : List Value} {x0 x1 x2 x3 x4 x5 x6 x7 x8 x v : Value} : CSet (x0 :: x1 :: x2 :: x3 :: x4 :: x5 :: x6 :: x7 :: x8 :: x :: l) 9 v (x0 :: x1 :: x2 :: x3 :: x4 :: x5 :: x6 :: x7 :: x8 :: v :: l) := .s cw8
theorem cw10 {l : List Value} {x0 x1 x2 x3 x4 x5 x6 x7 x8 x9 x v : Value} : CSet (x0 :: x1 :: x2 :: x3 :: x4 :: x5 :: x6 :: x7 :: x8 :: x9 :: x :: l) 10 v (x0 :: x1 :: x2 :: x3 :: x4 :: x5 :: x6 :: x7 :: x8 :: x9 :: v :: l) := .s cw9
theorem cw11 {l : List Value} {x0 x1 x2 x3 x4 x5 x6 x7 x8 x9 x10 x v : Value} : CSet (x0 :: x1 :: x2 :: x3 :: x4 :: x5 :: x6 :: x7 :: x8 :: x9 :: x10 :: x :: l) 11 v (x0 :: x1 :: x2 :: x3 :: x4 :: x5 :: x6 :: x7 :: x8 :: x9 :: x10 :: v :: l) := .s cw10
theorem cw12 {l : List Value} {x0 x1 x2 x3 x4 x5 x6 x7 x8 x9 x10 x11 x v : Value} : CSet (x0 :: x1 :: x2 :: x3 :: x4 :: x5 :: x6 :: x7 :: x8 :: x9 :: x10 :: x11 :: x :: l) 12 v (x0 :: x1 :: x2 :: x3 :: x4 :: x5 :: x6 :: x7 :: x8 :: x9 :: x10 :: x11 :: v :: l) := .s cw11
theorem cw13 {l : List Value} {x0 x1 x2 x3 x4 x5 x6 x7 x8 x9 x10 x11 x12 x v : Value} : CSet (x0 :: x1 :: x2 :: x3 :: x4 :: x5 :: x6 :: x7 :: x8 :: x9 :: x10 :: x11 :: x12 :: x :: l) 13 v (x0 :: x1 :: x2 :: x3 :: x4 :: x5 :: x6 :: x7 :: x8 :: x9 :: x10 :: x11 :: x12 :: v :: l) := .s cw12
theorem cw14 {l : List Value} {x0 x1 x2 x3 x4 x5 x6 x7 x8 x9 x10 x11 x12 x13 x v : Value} : CSet (x0 :: x1 :: x2 :: x3 :: x4 :: x5 :: x6 :: x7 :: x8 :: x9 :: x10 :: x11 :: x12 :: x13 :: x :: l) 14 v (x0 :: x1 :: x2 :: x3 :: x4 :: x5 :: x6 :: x7 :: x8 :: x9 :: x10 :: x11 :: x12 :: x13 :: v :: l) := .s cw13
theorem cw15 {l : List Value} {x0 x1 x2 x3 x4 x5 x6 x7 x8 x9 x10 x11 x12 x13 x14 x v : Value} : CSet (x0 :: x1 :: x2 :: x3 :: x4 :: x5 :: x6 :: x7 :: x8 :: x9 :: x10 :: x11 :: x12 :: x13 :: x14 :: x :: l) 15 v (x0 :: x1 :: x2 :: x3 :: x4 :: x5 :: x6 :: x7 :: x8 :: x9 :: x10 :: x11 :: x12 :: x13 :: x14 :: v :: l) := .s cw14
theorem cw16 {l : List Value} {x0 x1 x2 x3 x4 x5 x6 x7 x8 x9 x10 x11 x12 x13 x14 x15 x v : Value} : CSet (x0 :: x1 :: x2 :: x3 :: x4 :: x5 :: x6 :: x7 :: x8 :: x9 :: x10 :: x11 :: x12 :: x13 :: x14 :: x15 :: x :: l) 16 v (x0 :: x1 :: x2 :: x3 :: x4 :: x5 :: x6 :: x7 :: x8 :: x9 :: x10 :: x11 :: x12 :: x13 :: x14 :: x15 :: v :: l) := .s cw15
theorem cw17 {l : List Value} {x0 x1 x2 x3 x4 x5 x6 x7 x8 x9 x10 x11 x12 x13 x14 x15 x16 x v : Value} : CSet (x0 :: x1 :: x2 :: x3 :: x4 :: x5 :: x6 :: x7 :: x8 :: x9 :: x10 :: x11 :: x12 :: x13 :: x14 :: x15 :: x16 :: x :: l) 17 v (x0 :: x1 :: x2 :: x3 :: x4 :: x5 :: x6 :: x7 :: x8 :: x9 :: x10 :: x11 :: x12 :: x13 :: x14 :: x15 :: x16 :: v :: l) := .s cw16
theorem cw18 {l : List Value} {x0 x1 x2 x3 x4 x5 x6 x7 x8 x9 x10 x11 x12 x13 x14 x15 x16 x17 x v : Value} : CSet (x0 :: x1 :: x2 :: x3 :: x4 :: x5 :: x6 :: x7 :: x8 :: x9 :: x10 :: x11 :: x12 :: x13 :: x14 :: x15 :: x16 :: x17 :: x :: l) 18 v (x0 :: x1 :: x2 :: x3 :: x4 :: x5 :: x6 :: x7 :: x8 :: x9 :: x10 :: x11 :: x12 :: x13 :: x14 :: x15 :: x16 :: x17 :: v :: l) := .s cw17
section
variable {P : Program} {N : Nat} {Q : Post} {ρ : Env} {h : Heap} {ops : Array Oper} {K : Env → Heap → Prop}
variable {dst : Option Tmp} {ty : TypeId} {pos : String} {aft : Array Edge} {g : Option (Nat × Bool)}
variable {α : Type} {T : Ty α} {k : Cl} {E : En} {L L' : List Rs} {I : Gh} {a a2 : Option Addr} {c c2 n n2 : Nat} {l l2 r : List α} {b : Nat} {cs cs' : List Value} {t e : TypeId} {v : Value} {x y vx : Operand}
theorem lB (o : OwnB I h b cs e) (off : Nat) (hv : cs[off]? = some v) (q : K (put N ρ dst v) h)
    (hx : ev N ρ x = .pointer (some ⟨b, off, none⟩) := by kernel_rfl) (ht : pureRun P (isAgg t) = some false := by kernel_rfl) : owp P N ⟨dst, .load t x, ty, pos, aft, g⟩ ρ h K :=
  owp_load (a := some ⟨b, 0, none⟩) (n := off) (by rw [hx]; simp [elemPtr]) ht (o.cell hv) q
theorem lN (o : OwnB I h b cs e) (off m : Nat) (q : K (put N ρ dst (.agg ((cs.drop off).take m).toArray)) h) (hl : Nat.ble (off + m) cs.length = true := by rfl)
    (hx : ev N ρ x = .pointer (some ⟨b, off, none⟩) := by kernel_rfl) (ht : pureRun P (isAgg t) = some true := by kernel_rfl) (hm : pureRun P (sizeOf t) = some m := by kernel_rfl) : owp P N ⟨dst, .load t x, ty, pos, aft, g⟩ ρ h K :=
  owp_loadN (a := some ⟨b, 0, none⟩) (n := off) (by rw [hx]; simp [elemPtr]) ht hm (o.seg_ off m (Nat.le_of_ble_eq_true hl)) q
theorem lC {n : Nat} (hc : cellAt h a n = some v) (q : K (put N ρ dst v) h) (hx : ev N ρ x = elemPtr a n := by kernel_rfl) (ht : pureRun P (isAgg t) = some false := by kernel_rfl) : owp P N ⟨dst, .load t x, ty, pos, aft, g⟩ ρ h K :=
  owp_load hx ht hc q
theorem lG {n m : Nat} (hc : segAt h a n m = some cs) (q : K (put N ρ dst (.agg cs.toArray)) h) (hx : ev N ρ x = elemPtr a n := by kernel_rfl) (ht : pureRun P (isAgg t) = some true := by kernel_rfl)
    (hm : pureRun P (sizeOf t) = some m := by kernel_rfl) : owp P N ⟨dst, .load t x, ty, pos, aft, g⟩ ρ h K := owp_loadN hx ht hm hc q
theorem nB (hs : St E L I h) (cs : List Value) (q : ∀ b h', St E (rB b cs e :: L) I h' → K (put N ρ dst (.pointer (some ⟨b, 0, none⟩))) h') (hx : (ev N ρ x).cells = cs.toArray := by kernel_rfl) :
    owp P N ⟨dst, .box e x, ty, pos, aft, g⟩ ρ h K :=
  owp_box cs hs.bd hx fun b h' hc p o => q b h' (hs.new p o.at_ (fun d y => by obtain rfl : d = b := y; exact ⟨hc, o.lt, o.no⟩))
theorem nA (hs : St E L I h) (cs : List Value) (z : Value) (q : ∀ b h', St E (rB b cs e :: L) I h' → K (put N ρ dst (.pointer (some ⟨b, 0, none⟩))) h') (hz : pureRun P (zeroValue e) = some z := by kernel_rfl)
    (hcs : z.cells = cs.toArray := by kernel_rfl) : owp P N ⟨dst, .alloc e, ty, pos, aft, g⟩ ρ h K :=
  owp_alloc cs z hs.bd hz hcs fun b h' hc p o => q b h' (hs.new p o.at_ (fun d y => by obtain rfl : d = b := y; exact ⟨hc, o.lt, o.no⟩))
theorem own_new {h' : Heap} (hs : St E L I h) (hc : h.size ≤ b) (p : Pst No I h I h') (o : OwnX T (k.G E.B I) I h' (some ⟨b, 0, none⟩) c l) (hn : l.length = n) : St E (rO T k (some ⟨b, 0, none⟩) c n l :: L) I h' :=
  hs.new p (rO_ok o hn) (fun d y => ⟨by obtain rfl := inA_some y; exact hc, o.lt d y, o.notI d y⟩)
theorem nS (hs : St E L I h) (k : Cl) (T : Ty α) (l : List α) (cs : List Value) (sz : Nat) (z : Value) {n : Nat} {parts : Array (Nat × Operand)} (r : Reps T (k.G E.B I) h cs l)
    (q : ∀ b h', St E (rO T k (some ⟨b, 0, none⟩) n n l :: L) I h' → K (put N ρ dst (.slice (some ⟨b, 0, none⟩) n n)) h') (hn : l.length = n := by rfl)
    (hu : P.underlying t = some (.slice e) := by kernel_rfl) (hsz : pureRun P (sizeOf e) = some sz := by kernel_rfl) (hlim : Nat.ble (n * sz) (2 ^ 24) = true := by kernel_rfl) (hz : pureRun P (zeroValue e) = some z := by kernel_rfl)
    (hf : Instr.fill (fun i => some (i * sz, sz)) ((Array.range (n * sz)).map (fun j => z.cells[j % z.cells.size]!)) (parts.toList.map fun p => (p.1, ev N ρ p.2)) = some cs.toArray := by kernel_rfl) :
    owp P N ⟨dst, .buildSlice t n parts, ty, pos, aft, g⟩ ρ h K :=
  owp_buildSlice (e := e) cs sz z hs.bd hu hsz hlim hz hf fun b h' hc p o => q b h' (by
    have u : Up (k.G E.B I) h (k.G E.B I) h' := Cl.up (p.up hs.bd (fun _ y => y.elim)) (hs.keepB p (fun _ y => y.elim))
    have w := OwnB.own o (r.up u)
    rw [hn] at w
    exact own_new hs hc p w hn)
theorem nM (hs : St E L I h) (T : Ty α) (z : α) (zv : Value) {bytes : Nat} {kl kc : IntKind} {m : Int} (H : mk m z = some r) (hrep : ∀ I h, T.rep I h zv.cells.toList z)
    (q : ∀ b h', St E (rO T .i (some ⟨b, 0, none⟩) r.length r.length r :: L) I h' → K (put N ρ dst (.slice (some ⟨b, 0, none⟩) r.length r.length)) h')
    (hu : P.underlying t = some (.slice e) := by kernel_rfl) (he : elemChk P e T.size bytes = true := by kernel_rfl) (hz : pureRun P (zeroValue e) = some zv := by kernel_rfl) (hby : Nat.ble bytes 128 = true := by kernel_rfl)
    (hx : ev N ρ x = .int kl m := by kernel_rfl) (hy : ev N ρ y = .int kc m := by kernel_rfl) : owp P N ⟨dst, .makeSlice t x y, ty, pos, aft, g⟩ ρ h K :=
  owp_mk T zv hs.bd hu (elemOk_of he) hz hby hx hy H hrep fun b h' hc p o => q b h' (own_new hs hc p o rfl)
theorem nZ (hs : St E L I h) {src d2 : TypeId} {s : ByteArray} (q : ∀ I' b cap h', St E (rR (tInt .u8) .i (some ⟨b, 0, none⟩) cap (strL s).length (strL s) :: L) I' h' → K (put N ρ dst (.slice (some ⟨b, 0, none⟩) (strL s).length cap)) h')
    (h1 : P.underlying src = some .string := by kernel_rfl) (h2 : P.underlying d2 = some (.slice e) := by kernel_rfl) (h3 : P.underlying e = some (.int .u8) := by kernel_rfl)
    (hx : ev N ρ x = .string s := by kernel_rfl) : owp P N ⟨dst, .convert src d2 x, ty, pos, aft, g⟩ ρ h K :=
  owp_bytes hs.bd h1 h2 h3 hx fun b cap h' hc p o => q _ b cap h' (hs.new p ⟨o, rfl⟩ (fun _ y => y.elim))
theorem sB (hs : St E (rB b cs e :: L) I h) {off : Nat} {v : Value} (w : CSet cs off v cs') (q : ∀ h', St E (rB b cs' e :: L) I h' → K (put N ρ dst undef) h') (hone : v.oneCell' = true := by rfl)
    (hx : ev N ρ x = .pointer (some ⟨b, off, none⟩) := by kernel_rfl) (hv : ev N ρ vx = v := by kernel_rfl) (hm : pureRun P (sizeOf t) = some 1 := by kernel_rfl) : owp P N ⟨dst, .store t x vx, ty, pos, aft, g⟩ ρ h K :=
  owp_store1 off v hs.bd (hs.bl d0) hx hv hone hm w.eq.1 fun h' p o => q h' (hs.upd p (by rw [w.eq.2]; exact o.at_) (fun d y => ⟨.inl y, by obtain rfl : d = b := y; exact ⟨o.lt, o.no⟩⟩))
theorem sN (hs : St E (rB b cs e :: L) I h) (off : Nat) (vs : List Value) (cs' : List Value) (hone : ∀ v ∈ vs, v.oneCell' = true) (q : ∀ h', St E (rB b cs' e :: L) I h' → K (put N ρ dst undef) h') (hc : cs.take off ++ vs ++ cs.drop (off + vs.length) = cs' := by rfl)
    (hoff : Nat.ble (off + vs.length) cs.length = true := by rfl) (hx : ev N ρ x = .pointer (some ⟨b, off, none⟩) := by kernel_rfl) (hv : ev N ρ vx = .agg vs.toArray := by kernel_rfl)
    (hm : pureRun P (sizeOf t) = some vs.length := by kernel_rfl) : owp P N ⟨dst, .store t x vx, ty, pos, aft, g⟩ ρ h K :=
  owp_storeN off vs hs.bd (hs.bl d0) hx hv hone hm (Nat.le_of_ble_eq_true hoff) fun h' p o => q h' (hs.upd p (by rw [← hc]; exact o.at_) (fun d y => ⟨.inl y, by obtain rfl : d = b := y; exact ⟨o.lt, o.no⟩⟩))
theorem own_upd {h' : Heap} {l2 : List α} {c2 n2 : Nat} (hs : St E (rO T k a c n l :: L) I h) (p : Pst (InA a) I h I h') (o : OwnX T (k.G E.B I) I h' a2 c2 l2) (hn : l2.length = n2) (hf : ∀ b, InA a2 b → InA a b ∨ h.size ≤ b) :
    St E (rO T k a2 c2 n2 l2 :: L) I h' := hs.upd (r := rO T k a c n l) p (rO_ok o hn) (fun d y => ⟨hf d y, o.lt d y, o.notI d y⟩)
theorem sE (hs : St E (rO T k a c n l :: L) I h) {i : Int} (f : Nat) (vs : List Value) (x' : α) (h0 : 0 ≤ i) (h1 : i < (l.length : Int)) (hseg : segAt h a (i.toNat * T.size) T.size = some cs) (hone : ∀ v ∈ vs, v.oneCell' = true)
    (hrep : T.rep (k.G E.B I) h (cs.take f ++ vs ++ cs.drop (f + vs.length)) x') (q : ∀ h', St E (rO T k a c n (l.set i.toNat x') :: L) I h' → K (put N ρ dst undef) h') (hfit : Nat.ble (f + vs.length) T.size = true := by kernel_rfl)
    (hx : ev N ρ x = elemPtr a (i.toNat * T.size + f) := by kernel_rfl) (hv : (ev N ρ vx).cells = vs.toArray := by kernel_rfl) (hm : pureRun P (sizeOf t) = some vs.length := by kernel_rfl) :
    owp P N ⟨dst, .store t x vx, ty, pos, aft, g⟩ ρ h K :=
  owp_storeElem T f vs x' hs.bd hs.bdG (hs.ow d0) (hs.notG d0) h0 h1 hseg hfit hx hv hone hm hrep fun h' p o => q h' (own_upd hs p o (by rw [List.length_set]; exact (hs.nO d0).symm) (fun _ y => .inl y))
theorem aO (hs : St E (rO T k a c n l :: L) I h) {bytes : Nat} (s2 : Sn T (k.G E.B I) h a2 c2 n2 l2) (m : app l l2 = some r)
    (q : ∀ a' c' h', St E (rO T k a' c' r.length r :: L) I h' → K (put N ρ dst (.slice a' r.length c')) h') (hu : P.underlying t = some (.slice e) := by kernel_rfl) (he : elemChk P e T.size bytes = true := by kernel_rfl)
    (hpos : Nat.ble 1 T.size = true := by kernel_rfl) (hby : Nat.ble bytes 128 = true := by kernel_rfl) (hx : ev N ρ x = .slice a n c := by kernel_rfl) (hy : ev N ρ y = .slice a2 n2 c2 := by kernel_rfl) :
    owp P N ⟨dst, .call ⟨.builtin .append, #[x, y], #[t, t]⟩, ty, pos, aft, g⟩ ρ h K :=
  owp_app T hu (elemOk_of he) hpos hby hs.bd hs.bdG (hs.ow d0) (hs.notG d0) s2.toSl m (by rw [hx, hs.nO d0]) (by rw [hy, s2.len]) fun a' c' h' p o hf => q a' c' h' (own_upd hs p o rfl hf)
theorem aN (hs : St E L I h) (k : Cl) {bytes : Nat} (s2 : Sn T (k.G E.B I) h a2 c2 n2 l2) (m : app [] l2 = some r)
    (q : ∀ a' c' h', St E (rO T k a' c' r.length r :: L) I h' → K (put N ρ dst (.slice a' r.length c')) h') (hu : P.underlying t = some (.slice e) := by kernel_rfl) (he : elemChk P e T.size bytes = true := by kernel_rfl)
    (hpos : Nat.ble 1 T.size = true := by kernel_rfl) (hby : Nat.ble bytes 128 = true := by kernel_rfl) (hx : ev N ρ x = .slice none 0 0 := by kernel_rfl) (hy : ev N ρ y = .slice a2 n2 c2 := by kernel_rfl) :
    owp P N ⟨dst, .call ⟨.builtin .append, #[x, y], #[t, t]⟩, ty, pos, aft, g⟩ ρ h K :=
  owp_app T hu (elemOk_of he) hpos hby hs.bd hs.bdG (own_nil T (k.G E.B I) I h) (fun _ y => (inA_none y).elim) s2.toSl m hx (by rw [hy, s2.len]) fun a' c' h' p o hf => q a' c' h'
    (hs.new (p.weaken (fun _ y => (inA_none y).elim)) (rO_ok o rfl) (fun d y => ⟨(hf d y).resolve_left inA_none, o.lt d y, o.notI d y⟩))
theorem cO (hs : St E (rO T k a c n l :: L) I h) {sT : TypeId} (s2 : Sn T (k.G E.B I) h a2 c2 n2 l2)
    (q : ∀ h', St E (rO T k a c n (cpy l l2) :: L) I h' → K (put N ρ dst (goInt ((min l2.length l.length : Nat) : Int))) h') (hu : P.underlying t = some (.slice e) := by kernel_rfl) (hs1 : (P.info? e).map (·.size) = some 1 := by kernel_rfl)
    (hT : T.size = 1 := by kernel_rfl) (hx : ev N ρ x = .slice a n c := by kernel_rfl) (hy : ev N ρ y = .slice a2 n2 c2 := by kernel_rfl) : owp P N ⟨dst, .call ⟨.builtin .copy, #[x, y], #[t, sT]⟩, ty, pos, aft, g⟩ ρ h K :=
  owp_copy T hu hs1 hT hs.bd hs.bdG (hs.ow d0) (hs.notG d0) s2.toSl (by rw [hx, hs.nO d0]) (by rw [hy, s2.len]) fun h' p o => q h' (own_upd hs p o (by rw [cpy_len]; exact (hs.nO d0).symm) (fun _ y => .inl y))
theorem Sn.up1 {B : Gh} (s : Sn T ((Cl.i).G B I) h a c n l) : Sn T ((Cl.b).G B I) h a c n l := ⟨s.toSl.up (up_sub (fun _ y => .inl y)) (fun _ _ _ => rfl), s.len⟩
theorem Sn.flat {G G' : Gh} (s : Sn T G h a c n l) (hf : Flat T) : Sn T G' h a c n l := ⟨s.toSl.flat hf, s.len⟩
theorem Sn.part {G : Gh} (s : Sn T G h a c n l) {lo hi : Int} (h0 : 0 ≤ lo) (h1 : lo ≤ hi) (h2 : hi ≤ (l.length : Int)) : Sn T G h (slA a c lo.toNat T.size) (c - lo.toNat) (sub l lo hi).length (sub l lo hi) := ⟨s.toSl.part h0 h1 h2, rfl⟩
theorem Sn.cell1 {G : Gh} {ik : IntKind} {l : List Int} (s : Sn (tInt ik) G h a c n l) {i : Int} (h0 : 0 ≤ i) (h1 : i < (l.length : Int)) : cellAt h a (i.toNat * 1) = some (.int ik (Sx.at_ l i)) := by rw [Nat.mul_one]; exact s.toSl.int h0 h1
theorem St.pR (hs : St E L I h) (q : Rd T (k.G E.B I) h a c l ∧ l.length = n) : St E (rR T k a c n l :: L) I h := hs.pers (r := rR T k a c n l) q noF
theorem St.part (hs : St E L I h) (d : Del L (rR T k a c n l) L') {lo hi : Int} (h0 : 0 ≤ lo) (h1 : lo ≤ hi) (h2 : hi ≤ (l.length : Int)) :
    St E (rR T k (slA a c lo.toNat T.size) (c - lo.toNat) (sub l lo hi).length (sub l lo hi) :: L) I h := hs.pR ⟨(hs.rd d).partX h0 h1 h2, rfl⟩
theorem St.partO (hs : St E (rO T k a c n l :: L) I h) {lo hi : Int} (h0 : 0 ≤ lo) (h1 : lo ≤ hi) (h2 : hi ≤ (l.length : Int)) :
    St E (rO T k (slA a c lo.toNat T.size) (c - lo.toNat) (sub l lo hi).length (sub l lo hi) :: L) I h := hs.imp (r := rO T k a c n l) (rO_ok ((hs.ow d0).part h0 h1 h2) rfl) (fun _ y => inA_slA y)
theorem qI {R R' : List Rs} (d : Del R (rR T .i a c n l) R') : Br1 R (rR T .b a c n l) := ⟨noF, fun s => ⟨((d.sep s).1.1.1.mono (fun _ y => .inl y)), (d.sep s).1.1.2⟩⟩
theorem qB {R R' : List Rs} (d : Del R (rR T .b a c n l) R') : Br1 R (rR T .b a c n l) := ⟨noF, fun s => ⟨((d.sep s).1.1.1.mono (fun _ y => .inr (.inl y))), (d.sep s).1.1.2⟩⟩
theorem qO {R R' : List Rs} (d : Del R (rO T k a c n l) R') : Br1 R (rR T .b a c n l) := ⟨noF, fun {B I h} s => by
  have q := (d.sep s).1.1
  refine ⟨⟨q.1.1.up (up_sub (fun b y => ?_)) (fun _ _ _ => rfl), fun ad e _ => .inr (.inr ((d.sf _).2 (.inl ⟨ad, e, rfl⟩)))⟩, q.2⟩
  cases k with
  | i => exact .inl y
  | b => exact .inr (.inl y)⟩
theorem qK {R R' : List Rs} (d : Del R (rR T .i a c n l) R') : Br1 R (rR T .i a c n l) := ⟨noF, fun s => (d.sep s).1.1⟩
theorem qN {R : List Rs} : Br1 R (rR T k none 0 0 []) := ⟨noF, fun _ => ⟨rd_nil _ _ _, rfl⟩⟩
theorem qP {R : List Rs} (q : Br1 R (rR T k a c n l)) {lo hi : Int} (h0 : 0 ≤ lo) (h1 : lo ≤ hi) (h2 : hi ≤ (l.length : Int)) : Br1 R (rR T k (slA a c lo.toNat T.size) (c - lo.toNat) (sub l lo hi).length (sub l lo hi)) := ⟨noF, fun s => ⟨(q.2 s).1.partX h0 h1 h2, rfl⟩⟩
variable {xe : GoErr}
theorem xI {R R' : List Rs} (d : Del R (rE .i v xe) R') : Br1 R (rE .b v xe) := ⟨noF, fun s => ErrV.up (up_sub (fun _ y => .inl y)) (d.sep s).1.1⟩
theorem xK {R R' : List Rs} (d : Del R (rE .i v xe) R') : Br1 R (rE .i v xe) := ⟨noF, fun s => (d.sep s).1.1⟩
end
theorem tk0 {L : List Rs} : Tk L [] L := .z
theorem tk1 {L : List Rs} {a : Rs} : Tk (a :: L) [a] L := .s tk0
theorem tk2 {L : List Rs} {a b : Rs} : Tk (a :: b :: L) [a, b] L := .s tk1
theorem tk3 {L : List Rs} {a b c : Rs} : Tk (a :: b :: c :: L) [a, b, c] L := .s tk2
theorem tk4 {L : List Rs} {a b c d : Rs} : Tk (a :: b :: c :: d :: L) [a, b, c, d] L := .s tk3
theorem tk5 {L : List Rs} {a b c d e : Rs} : Tk (a :: b :: c :: d :: e :: L) [a, b, c, d, e] L := .s tk4
theorem tk6 {L : List Rs} {a b c d e f : Rs} : Tk (a :: b :: c :: d :: e :: f :: L) [a, b, c, d, e, f] L := .s tk5
theorem ct0 {L : List Rs} : Cat [] L L := .z
theorem ct1 {L : List Rs} {a : Rs} : Cat [a] L (a :: L) := .s ct0
theorem ct2 {L : List Rs} {a b : Rs} : Cat [a, b] L (a :: b :: L) := .s ct1
theorem ct3 {L : List Rs} {a b c : Rs} : Cat [a, b, c] L (a :: b :: c :: L) := .s ct2
theorem ct4 {L : List Rs} {a b c d : Rs} : Cat [a, b, c, d] L (a :: b :: c :: d :: L) := .s ct3
theorem ct5 {L : List Rs} {a b c d e : Rs} : Cat [a, b, c, d, e] L (a :: b :: c :: d :: e :: L) := .s ct4
theorem ct6 {L : List Rs} {a b c d e f : Rs} : Cat [a, b, c, d, e, f] L (a :: b :: c :: d :: e :: f :: L) := .s ct5
theorem qL {R R' : List Rs} {b : Nat} {cs : List Value} {t : TypeId} (d : Del R (rB b cs t) R') : Br1 R (rL b cs t) := ⟨noF, fun s => ⟨(d.sep s).1.1, .inr (.inr ((d.sf _).2 (.inl rfl)))⟩⟩
theorem ll {E : En} {L L' : List Rs} {I : Gh} {h : Heap} {b : Nat} {cs : List Value} {t : TypeId} (hs : St E L I h) (d : Del L (rL b cs t) L') {n : Nat} {v : Value} (hv : cs[n]? = some v) : cellAt h (some ⟨b, 0, none⟩) n = some v := by
  have := (hs.g d).1
  unfold cellAt; simp only; rw [this]; simpa using hv
theorem lls {E : En} {L L' : List Rs} {I : Gh} {h : Heap} {b : Nat} {cs : List Value} {t : TypeId} (hs : St E L I h) (d : Del L (rL b cs t) L') (n m : Nat) (hl : Nat.ble (n + m) cs.length = true) : segAt h (some ⟨b, 0, none⟩) n m = some ((cs.drop n).take m) := by
  have := (hs.g d).1
  have := Nat.le_of_ble_eq_true hl
  unfold segAt; simp only; rw [(hs.g d).1]; simp [this, seg]
section
variable {E : En} {L L' : List Rs} {I : Gh} {h : Heap} {α : Type} {T : Ty α} {k : Cl} {a : Option Addr} {c n : Nat} {l : List α}
theorem nmL {ins : List Rs} {B : Gh} {b : Nat} {cs : List Value} {t : TypeId} (hs : St (en ins B I h) ins I h) (d : Del ins (rL b cs t) L') : ∀ b', InA (some (⟨b, 0, none⟩ : Addr)) b' → ¬ (en ins B I h).M b' := fun b' y z => by
  obtain rfl := inA_some y
  exact (hs.g d).2.elim (hs.sep.lt b z).2 (hs.notB b z)
theorem nmR {ins : List Rs} {B : Gh} (hs : St (en ins B I h) ins I h) (d : Del ins (rR T k a c n l) L') {i : Int} (h0 : 0 ≤ i) (h1 : i < (l.length : Int)) : ∀ b, InA a b → ¬ (en ins B I h).M b := fun b y z => by
  have q := (hs.rd d).inI h0 h1 y
  cases k with
  | i => exact (hs.sep.lt b z).2 q
  | b => exact q.elim (hs.sep.lt b z).2 (hs.notB b z)
end
section
variable {P : Program} {N : Nat} {Q : Post} {ρ : Env} {h h0 : Heap} {ops : Array Oper} {M : Gh} {S : Heap → Prop} {Lm fuel : Nat} {listed : Array Bool}
variable {dst : Option Tmp} {t ty : TypeId} {pos : String} {aft : Array Edge} {g : Option (Nat × Bool)} {x : Operand} {a : Option Addr} {n m : Nat} {v : Value} {cs : List Value}
theorem k_regD {E : En} {L : List Rs} {I : Gh} {id : Nat} {l : List Oper} {k : List Kn} (_hs : St E L I h) (Lm : Nat) (q : awp P N l.toArray (kQ P N Q k) (Keep E.M E.h) Lm l.length (Array.replicate l.length false) ρ h)
    (hm : P.follows .mixedOrders = true := by kernel_rfl) : kwp P N Q (.c (.region id l.toArray true) :: k) ρ h := cwp_regionD (Keep E.M E.h) Lm hm q
theorem k_regP {id : Nat} {l : List Oper} {k : List Kn} (Lm : Nat) (q : awp P N l.toArray (kQ P N Q k) (Keep No h) Lm l.length (Array.replicate l.length false) ρ h)
    (hm : P.follows .mixedOrders = true := by kernel_rfl) : kwp P N Q (.c (.region id l.toArray true) :: k) ρ h := cwp_regionD (Keep No h) Lm hm q
theorem aEnd {k : List Kn} (q : kwp P N Q k ρ h) (hr : Region.ready .any ops listed = [] := by kernel_rfl) : awp P N ops (kQ P N Q k) S Lm fuel listed ρ h := awp_nil hr q fuel
theorem aRun (is : List Nat) (fuel : Nat) (hS : S h) (q : awp P N ops Q S Lm fuel (lisT is listed) (runT P N ops is ρ) h) (h1 : okT P N ops Lm is listed ρ = true := by kernel_rfl) : awp P N ops Q S Lm (fuel + is.length) listed ρ h := awp_run is hS h1 q
theorem aL (i : Nat) (hi : ops[i]? = some ⟨dst, .load t x, ty, pos, aft, g⟩) (hS : Keep M h0 h) (hc : cellAt h0 a n = some v) (hm : ∀ b, InA a b → ¬ M b) (q : awp P N ops Q (Keep M h0) Lm fuel (listed.setIfInBounds i true) (put N ρ dst v) h)
    (hf : mayTake ops Lm listed i = true := by kernel_rfl) (hw : Region.wanted ⟨dst, .load t x, ty, pos, aft, g⟩ (yd N ops ρ) = true := by kernel_rfl) (hx : ev N ρ x = elemPtr a n := by kernel_rfl) (ht : pureRun P (isAgg t) = some false := by kernel_rfl) :
    awp P N ops Q (Keep M h0) Lm (fuel + 1) listed ρ h := awp_load i hi hf hw hx ht hS hc hm q
theorem aG (i : Nat) (hi : ops[i]? = some ⟨dst, .load t x, ty, pos, aft, g⟩) (hS : Keep M h0 h) (hc : segAt h0 a n m = some cs) (hM : ∀ b, InA a b → ¬ M b) (q : awp P N ops Q (Keep M h0) Lm fuel (listed.setIfInBounds i true) (put N ρ dst (.agg cs.toArray)) h)
    (hf : mayTake ops Lm listed i = true := by kernel_rfl) (hw : Region.wanted ⟨dst, .load t x, ty, pos, aft, g⟩ (yd N ops ρ) = true := by kernel_rfl) (hx : ev N ρ x = elemPtr a n := by kernel_rfl) (ht : pureRun P (isAgg t) = some true := by kernel_rfl)
    (hm : pureRun P (sizeOf t) = some m := by kernel_rfl) : awp P N ops Q (Keep M h0) Lm (fuel + 1) listed ρ h := awp_loadN i hi hf hw hx ht hm hS hc hM q
theorem aP (i : Nat) {o : Oper} (v : Value) (hi : ops[i]? = some o) (hr : pureRun P (execOp (ev N ρ) o) = some (.value v)) (hS : S h) (q : awp P N ops Q S Lm fuel (listed.setIfInBounds i true) (put N ρ o.dst v) h)
    (hf : mayTake ops Lm listed i = true := by kernel_rfl) (hw : Region.wanted o (yd N ops ρ) = true := by kernel_rfl) : awp P N ops Q S Lm (fuel + 1) listed ρ h := awp_pure i v hi hf hw hr hS q
theorem aO1 (i : Nat) {o : Oper} (hi : ops[i]? = some o) (q : owp P N o ρ h (fun ρ' h' => S h' ∧ awp P N ops Q S Lm fuel (listed.setIfInBounds i true) ρ' h'))
    (hr : Region.ready .any ops listed = [i] := by kernel_rfl) (hg : Region.wanted o (yd N ops ρ) = true := by kernel_rfl) : awp P N ops Q S Lm (fuel + 1) listed ρ h := awp_op i hr hi hg q
theorem aOL (i : Nat) {o : Oper} (hi : ops[i]? = some o) (q : owp P N o ρ h (awp P N ops Q S Lm fuel (listed.setIfInBounds i true)))
    (hr : Region.ready .any ops listed = [i] := by kernel_rfl) (hL : Nat.ble Lm i = true := by kernel_rfl) (hg : Region.wanted o (yd N ops ρ) = true := by kernel_rfl) : awp P N ops Q S Lm (fuel + 1) listed ρ h := awp_opL i hr hL hi hg q
theorem aT2 (i j : Nat) (k1 : awpAt P N ops Q S Lm fuel listed i ρ h) (k2 : awpAt P N ops Q S Lm fuel listed j ρ h) (hr : Region.ready .any ops listed = [i, j] := by kernel_rfl) : awp P N ops Q S Lm (fuel + 1) listed ρ h := awp_two i j hr k1 k2
theorem aA {i : Nat} {o : Oper} (hi : ops[i]? = some o) (q : owp P N o ρ h (fun ρ' h' => S h' ∧ awp P N ops Q S Lm fuel (listed.setIfInBounds i true) ρ' h')) (hg : Region.wanted o (yd N ops ρ) = true := by kernel_rfl) : awpAt P N ops Q S Lm fuel listed i ρ h := awpAt_op hi hg q
theorem aAL {i : Nat} {o : Oper} (hi : ops[i]? = some o) (q : owp P N o ρ h (awp P N ops Q S Lm fuel (listed.setIfInBounds i true))) (hL : Nat.ble Lm i = true := by kernel_rfl) (hg : Region.wanted o (yd N ops ρ) = true := by kernel_rfl) : awpAt P N ops Q S Lm fuel listed i ρ h := awpAt_opL hi hL hg q
theorem o_call {α β : Type} {fo : Operand} {as : Array Operand} {ats : Array TypeId} {fn : FuncId} {args : Array Value} {m : Option α} {f : α → Option β} {r : β} {R : α → Value → Heap → Prop} {K : Env → Heap → Prop} (H : m.bind f = some r) (ct : ∀ t, m = some t → Ret P fn args h (R t))
    (q : ∀ t v h', f t = some r → R t v h' → K (put N ρ dst v) h') (hp : pureRun P (execOp (ev N ρ) ⟨dst, .call ⟨.value fo, as, ats⟩, ty, pos, aft, g⟩) = some (.enter fn args) := by kernel_rfl) :
    owp P N ⟨dst, .call ⟨.value fo, as, ats⟩, ty, pos, aft, g⟩ ρ h K := by
  obtain ⟨t, m1, H⟩ := bind_some H
  exact owp_callF hp (ct t m1) (fun v h' hR => q t v h' H hR)
end
section
variable {P : Program} {N : Nat} {ρ : Env} {h : Heap}
variable {dst : Option Tmp} {ty : TypeId} {pos : String} {aft : Array Edge} {g : Option (Nat × Bool)} {α : Type} {T : Ty α} {G : Gh} {a : Option Addr} {c n sz : Nat} {l : List α} {t e : TypeId} {x ix : Operand} {ik : IntKind} {i lo hi : Int}
theorem pI (s : Sn T G h a c n l) (h0 : 0 ≤ i) (h1 : i < (l.length : Int)) (hx : ev N ρ x = .slice a n c := by kernel_rfl) (hix : ev N ρ ix = .int ik i := by kernel_rfl) (hu : P.underlying t = some (.slice e) := by kernel_rfl)
    (hsz : pureRun P (sizeOf e) = some sz := by kernel_rfl) : pureRun P (execOp (ev N ρ) ⟨dst, .indexAddr t x ix, ty, pos, aft, g⟩) = some (.value (elemPtr a (i.toNat * sz))) :=
  pr_indexElem s.toSl (by rw [hx, s.len]) hix hu hsz h0 h1
theorem pF (s : Sn T G h a c n l) (h0 : 0 ≤ i) (h1 : i < (l.length : Int)) {m f off : Nat} (hx : ev N ρ x = elemPtr a m := by kernel_rfl)
    (hf : ∀ b o : Nat, pureRun P (Instr.fieldAt t (.pointer (some ⟨b, o, none⟩)) f) = some (.pointer (some (Addr.add ⟨b, o, none⟩ off))) := by intro _ _; kernel_rfl) : pureRun P (execOp (ev N ρ) ⟨dst, .fieldAddr t x f, ty, pos, aft, g⟩) = some (.value (elemPtr a (m + off))) :=
  pr_fieldAddr hx (s.toSl.isSome h0 h1) (fun ad e => by obtain ⟨b, o, sp⟩ := ad; cases e; exact hf b o)
variable {xl xh : Operand} {k1 k2 : IntKind}
theorem pS (s : Sn T G h a c n l) (h0 : 0 ≤ lo) (h1 : lo ≤ hi) (h2 : hi ≤ (l.length : Int)) (hx : ev N ρ x = .slice a n c := by kernel_rfl) (hl : ev N ρ xl = .int k1 lo := by kernel_rfl) (hh : ev N ρ xh = .int k2 hi := by kernel_rfl) (hu : P.underlying t = some (.slice e) := by kernel_rfl)
    (hsz : pureRun P (sizeOf e) = some T.size := by kernel_rfl) : pureRun P (execOp (ev N ρ) ⟨dst, .slice t x (some xl) (some xh) none, ty, pos, aft, g⟩) = some (.value (.slice (slA a c lo.toNat T.size) (sub l lo hi).length (c - lo.toNat))) :=
  pr_slice_lh s.toSl ⟨rfl, rfl⟩ (by rw [hx, s.len]) hl hh hu hsz h0 h1 h2
theorem pSl (s : Sn T G h a c n l) (h0 : 0 ≤ lo) (h1 : lo ≤ (l.length : Int)) (h2 : (l.length : Int) ≤ (l.length : Int)) (hx : ev N ρ x = .slice a n c := by kernel_rfl) (hl : ev N ρ xl = .int k1 lo := by kernel_rfl) (hu : P.underlying t = some (.slice e) := by kernel_rfl)
    (hsz : pureRun P (sizeOf e) = some T.size := by kernel_rfl) : pureRun P (execOp (ev N ρ) ⟨dst, .slice t x (some xl) none none, ty, pos, aft, g⟩) = some (.value (.slice (slA a c lo.toNat T.size) (sub l lo (l.length : Int)).length (c - lo.toNat))) :=
  pr_slice_l s.toSl ⟨rfl, rfl⟩ (by rw [hx, s.len]) hl hu hsz h0 h1 h2
theorem pSh (s : Sn T G h a c n l) (h0 : (0 : Int) ≤ 0) (h1 : 0 ≤ hi) (h2 : hi ≤ (l.length : Int)) (hx : ev N ρ x = .slice a n c := by kernel_rfl) (hh : ev N ρ xh = .int k2 hi := by kernel_rfl) (hu : P.underlying t = some (.slice e) := by kernel_rfl)
    (hsz : pureRun P (sizeOf e) = some T.size := by kernel_rfl) : pureRun P (execOp (ev N ρ) ⟨dst, .slice t x none (some xh) none, ty, pos, aft, g⟩) = some (.value (.slice (slA a c (0 : Int).toNat T.size) (sub l 0 hi).length (c - (0 : Int).toNat))) :=
  pr_slice_h s.toSl ⟨rfl, rfl⟩ (by rw [hx, s.len]) hh hu hsz h0 h1 h2
end
def Fc (P : Program) (f : FuncId) (args : Array Value) (ins : List Rs) (B I : Gh) (h : Heap) (out : Value → List Rs → Prop) : Prop :=
  St (en ins B I h) ins I h → Ret P f args h (fun v h' => ∃ I' L, out v L ∧ St (en ins B I h) L I' h')
theorem fc_of {P : Program} {f : FuncId} {args : Array Value} {ins : List Rs} {B I : Gh} {h : Heap} {out : Value → List Rs → Prop}
    (k : ∀ E, St E ins I h → Ret P f args h (fun v h' => ∃ I' L, out v L ∧ St E L I' h')) : Fc P f args ins B I h out := fun hs => k _ hs
section
variable {P : Program} {N : Nat} {Q : Post} {ρ : Env} {h : Heap}
theorem k_call {α β : Type} {all l : List Oper} {k : List Kn} {dst : Option Tmp} {fo : Operand} {as : Array Operand} {ats : Array TypeId} {ty : TypeId} {pos : String} {aft : Array Edge} {g : Option (Nat × Bool)}
    {fn : FuncId} {args : Array Value} {m : Option α} {f : α → Option β} {r : β} {R : α → Value → Heap → Prop} (H : m.bind f = some r) (ct : ∀ t, m = some t → Ret P fn args h (R t))
    (q : ∀ t v h', f t = some r → R t v h' → kwp P N Q (.o all l :: k) (put N ρ dst v) h')
    (hp : pureRun P (execOp (ev N ρ) ⟨dst, .call ⟨.value fo, as, ats⟩, ty, pos, aft, g⟩) = some (.enter fn args) := by kernel_rfl)
    (hw : Region.wanted ⟨dst, .call ⟨.value fo, as, ats⟩, ty, pos, aft, g⟩ (yd N all.toArray ρ) = true := by kernel_rfl) : kwp P N Q (.o all (⟨dst, .call ⟨.value fo, as, ats⟩, ty, pos, aft, g⟩ :: l) :: k) ρ h := by
  obtain ⟨t, m1, H⟩ := bind_some H
  exact k_op (owp_callF hp (ct t m1) (fun v h' hR => q t v h' H hR)) hw
end
end Go.Proofs.YtjkbhpokboolpaaGreatDoor.Sx
