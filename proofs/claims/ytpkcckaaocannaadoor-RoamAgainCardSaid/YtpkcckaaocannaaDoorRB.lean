/- Packages window and roam: the laws of 21. -/
import Derived.Test.YtpkcckaaocannaaDoorRA
import Derived.Test.YtpkcckaaocannaaDoorGE
namespace Go.Proofs.YtpkcckaaocannaaDoor.Sx
open Go
set_option maxRecDepth 100000

theorem Told.congr {s : api_Seen} {top bits : Nat} {P Q : Nat → Prop} (t : Told s top bits P) (h : ∀ m, P m ↔ Q m) : Told s top bits Q :=
  ⟨t.tp, t.bt, t.lt, fun j a b => (t.is j a b).trans (h _), fun n q => t.le n ((h n).2 q)⟩
theorem has_told {s : api_Seen} {top bits n : Nat} {P : Nat → Prop} (t : Told s top bits P) (h1 : 1 ≤ n) (hn : n ≤ top) (hT : top ≤ 4611686018427387904) (h64 : top - n < 64) :
    window_Has.m s (n : Int) = some (bits.testBit (top - n)) := by
  unfold window_Has.m
  have e : w64 ((top : Int) - (n : Int)) = ((top - n : Nat) : Int) := by rw [w64_id (by omega) (by omega)]; omega
  rw [t.tp, t.bt, e, if_pos (by omega), if_pos (by omega), if_pos (by omega), if_pos (by omega)]
  congr 1
  rw [Bool.eq_iff_iff, beq_iff_eq]
  exact bit_eq t.lt h64
theorem let_new {s : api_Seen} {top bits n : Nat} {P : Nat → Prop} (t : Told s top bits P) (hn : top < n) (hM : n ≤ 4611686018427387904) :
    window_Let.m s (n : Int) = some (⟨(n : Int), bOr .u64 (shl .u64 s.Bits ((n - top : Nat) : Int)) 1⟩, .nil) := by
  unfold window_Let.m
  simp only [letJ]
  have e : w64 ((n : Int) - (top : Int)) = ((n - top : Nat) : Int) := by rw [w64_id (by omega) (by omega)]; omega
  rw [t.tp, e, if_neg (by omega), if_neg (by omega), cond_false, if_pos (by omega), cond_true, if_pos (by omega)]
theorem let_add {s : api_Seen} {top bits n : Nat} {P : Nat → Prop} (t : Told s top bits P) (h1 : 1 ≤ n) (hn : n ≤ top) (hT : top ≤ 4611686018427387904) (h64 : top - n < 64) (hp : ¬ P n) :
    window_Let.m s (n : Int) = some (⟨s.Top, bOr .u64 s.Bits (shl .u64 1 ((top - n : Nat) : Int))⟩, .nil) := by
  unfold window_Let.m
  simp only [letJ]
  have e : w64 ((top : Int) - (n : Int)) = ((top - n : Nat) : Int) := by rw [w64_id (by omega) (by omega)]; omega
  have hb : bits.testBit (top - n) = false := by
    cases hb : bits.testBit (top - n) with
    | false => rfl
    | true =>
      have := (t.is _ h64 (by omega)).1 hb
      rw [show top - (top - n) = n by omega] at this
      exact absurd this hp
  have hh := has_told t h1 hn hT h64
  rw [hb] at hh
  rw [hh, t.tp, e, if_neg (by omega), if_neg (by omega), cond_false, if_neg (by omega), cond_false, if_neg (by omega), Option.bind_some, cond_false, if_pos (by omega)]
theorem let_old {s : api_Seen} {top bits n : Nat} {P : Nat → Prop} (t : Told s top bits P) (h1 : 1 ≤ n) (hn : n ≤ top) (hT : top ≤ 4611686018427387904) (hp : 64 ≤ top - n ∨ P n) :
    window_Let.m s (n : Int) = some (s, .no 12) := by
  unfold window_Let.m
  simp only [letJ]
  have e : w64 ((top : Int) - (n : Int)) = ((top - n : Nat) : Int) := by rw [w64_id (by omega) (by omega)]; omega
  by_cases h64 : top - n < 64
  · have hb : bits.testBit (top - n) = true := by
      rcases hp with hp | hp
      · omega
      · refine (t.is _ h64 (by have := t.le _ hp; omega)).2 ?_
        rw [show top - (top - n) = n by omega]; exact hp
    have hh := has_told t h1 hn hT h64
    rw [hb] at hh
    rw [hh, t.tp, e, if_neg (by omega), if_neg (by omega), cond_false, if_neg (by omega), cond_false, if_neg (by omega), Option.bind_some, cond_true]
  · rw [t.tp, e, if_neg (by omega), if_neg (by omega), cond_false, if_neg (by omega), cond_false, if_pos (by omega)]

/-! ### Gates -/
theorem come_err {g : roam_Gate} {a : ByteArray} {b : List Int} {f : api_Frame} {e : GoErr} (ho : frame_Open.m KK g.Key g.Dir b = some (f, e)) (he : e ≠ .nil) : roam_Gate_Come.m KK g a b = some (g, [], e) := by
  unfold roam_Gate_Come.m
  rw [ho, Option.bind_some]
  simp only
  rw [if_neg he]
theorem come_old {g : roam_Gate} {a : ByteArray} {b : List Int} {f : api_Frame} {e : GoErr} {s : api_Seen} (ho : frame_Open.m KK g.Key g.Dir b = some (f, .nil)) (hs : window_Let.m g.Seen f.Seq = some (s, e)) (he : e ≠ .nil) :
    roam_Gate_Come.m KK g a b = some (g, [], e) := by
  unfold roam_Gate_Come.m
  rw [ho, Option.bind_some]
  simp only
  rw [if_pos trivial, hs, Option.bind_some]
  simp only
  rw [if_neg he]
theorem come_in {g : roam_Gate} {a : ByteArray} {b : List Int} {f : api_Frame} {s : api_Seen} (ho : frame_Open.m KK g.Key g.Dir b = some (f, .nil)) (hs : window_Let.m g.Seen f.Seq = some (s, .nil)) :
    roam_Gate_Come.m KK g a b = some (⟨g.Key, g.Dir, s, if f.Seq > g.Peer.Seq then ⟨a, f.Seq⟩ else g.Peer⟩, f.Body, .nil) := by
  unfold roam_Gate_Come.m
  rw [ho, Option.bind_some]
  simp only
  rw [if_pos trivial, hs, Option.bind_some]
  simp only
  rw [if_pos trivial]
  by_cases h : f.Seq > g.Peer.Seq
  · rw [if_pos h, if_pos h]
  · rw [if_neg h, if_neg h]
theorem bself (a : ByteArray) : (a == a) = true := by rw [beq_toListBytes]; simp
theorem same21_eq {g : roam_Gate} (h : g.Key.length ≤ 100000) : shutterlaw21_same.m KK g g = some true := by
  unfold shutterlaw21_same.m
  rw [same_eq h, Option.bind_some, beq_self_eq_true, cond_true, if_pos rfl, bself]
  simp
theorem xor1_ne {c : Int} (w : Wf .u8 c) : bXor .u8 c 1 ≠ c := by
  have bb := b_u8 w
  obtain ⟨c, rfl⟩ := Int.eq_ofNat_of_zero_le bb.1
  have := bXor8 (x := c) (y := 1) (by omega) (by omega)
  rw [show ((1 : Nat) : Int) = 1 from rfl] at this
  rw [this]
  intro e
  have e : c ^^^ 1 = c := by omega
  have h := congrArg (c ^^^ ·) e
  simp only [← Nat.xor_assoc, Nat.xor_self, Nat.zero_xor] at h
  omega
/-- A datagram whose last byte is another one isn't opened. -/
theorem forged_eq {k : List Int} {f : api_Frame} {v dir : Int} (wk : ∀ y ∈ k, Wf .u8 y) (wb : ∀ y ∈ f.Body, Wf .u8 y) (hb : f.Body.length ≤ 486) {p : Nat} (hp : p = 25 + f.Body.length) (hv : v ≠ at_ (sealT k f) (p : Int)) :
    openF k dir ((sealT k f).set p v) = (zF, .no 11) := by
  have l := (sealT_ok wk wb).1
  have s := sealT_tx wk wb
  have ht : tx ((sealT k f).set p v) = txt f := by
    rw [← s.1]; unfold tx
    rw [List.length_set, List.take_set_of_le (by omega)]
  unfold openF
  rw [List.length_set, if_neg (by omega), if_neg (by omega), ht, if_neg]
  intro h
  have e : (sealT k f).set p v = sealT k f := by
    have h1 := List.take_append_drop ((sealT k f).length - 16) ((sealT k f).set p v)
    have h2 : tx ((sealT k f).set p v) ++ tg ((sealT k f).set p v) = (sealT k f).set p v := by unfold tx tg; rw [List.length_set]; exact h1
    rw [ht, ← h] at h2
    exact h2.symm
  have : ((sealT k f).set p v)[p]? = (sealT k f)[p]? := by rw [e]
  rw [List.getElem?_set_self (by omega), List.getElem?_eq_getElem (by omega)] at this
  refine hv ?_
  have := Option.some.inj this
  rw [this]; unfold at_
  rw [Int.toNat_natCast, List.getD_eq_getElem?_getD, List.getElem?_eq_getElem (by omega), Option.getD_some]
theorem at_memG {α : Type} [Inhabited α] {l : List α} {i : Int} (h0 : 0 ≤ i) (h1 : i < (l.length : Int)) : at_ l i ∈ l := by
  have : i.toNat < l.length := by omega
  unfold at_
  rw [List.getD_eq_getElem?_getD, List.getElem?_eq_getElem this, Option.getD_some]; exact List.getElem_mem _
theorem at_setG {α : Type} [Inhabited α] {l : List α} {n m : Nat} {v : α} (hn : n < l.length) : at_ (l.set n v) (m : Int) = if m = n then v else at_ l (m : Int) := by
  unfold at_
  rw [Int.toNat_natCast, List.getD_eq_getElem?_getD, List.getD_eq_getElem?_getD]
  by_cases h : m = n
  · subst h; rw [List.getElem?_set_self hn, if_pos rfl]; rfl
  · rw [List.getElem?_set_ne (fun e => h e.symm), if_neg h]

theorem awake21 : shutterlaw21_awake.m KK = some true := by
  unfold shutterlaw21_awake.m
  obtain ⟨key, hkey⟩ : ∃ k : List Int, k = [107] := ⟨_, rfl⟩
  rw [← hkey]
  have kl : key.length ≤ 100 := by rw [hkey]; decide
  have wk : ∀ y ∈ key, Wf .u8 y := fun y hy => by rw [hkey, List.mem_singleton] at hy; rw [hy]; exact wf_num (by decide) (by decide)
  clear hkey
  obtain ⟨f, hf⟩ : ∃ f : api_Frame, f = ⟨0, 3, [98]⟩ := ⟨_, rfl⟩
  obtain ⟨f2, hf2⟩ : ∃ f : api_Frame, f = ⟨0, 2, []⟩ := ⟨_, rfl⟩
  have fb : f.Body = [98] := by rw [hf]
  have fs : f.Seq = ((3 : Nat) : Int) := by rw [hf]; rfl
  have fd : f.Dir = 0 := by rw [hf]
  have gb : f2.Body = [] := by rw [hf2]
  have gs : f2.Seq = ((2 : Nat) : Int) := by rw [hf2]; rfl
  have gd : f2.Dir = 0 := by rw [hf2]
  have wb : ∀ y ∈ f.Body, Wf .u8 y := fun y hy => by rw [fb, List.mem_singleton] at hy; rw [hy]; exact wf_num (by decide) (by decide)
  have wg : ∀ y ∈ f2.Body, Wf .u8 y := fun y hy => by rw [gb] at hy; cases hy
  have ok : okF f := by rw [hf]; exact ⟨.inl rfl, show (1 : Int) ≤ 3 by decide, show (3 : Int) ≤ 4611686018427387904 by decide⟩
  have ok2 : okF f2 := by rw [hf2]; exact ⟨.inl rfl, show (1 : Int) ≤ 2 by decide, show (2 : Int) ≤ 4611686018427387904 by decide⟩
  have os := (open_seal (k := key) (f := f) wk wb ok (by rw [fb]; decide)).1
  have os2 := (open_seal (k := key) (f := f2) wk wg ok2 (by rw [gb]; decide)).1
  rw [fd] at os
  rw [gd] at os2
  have ho := open_eq (k := key) (b := sealT key f) (dir := 0) (by omega) wk (sealT_ok wk wb).2
  have ho2 := open_eq (k := key) (b := sealT key f2) (dir := 0) (by omega) wk (sealT_ok wk wg).2
  have ho3 := open_eq (k := key) (b := [110, 111]) (dir := 0) (by omega) wk (fun y hy => by
    simp only [List.mem_cons, List.not_mem_nil, or_false] at hy
    rcases hy with rfl | rfl <;> exact wf_num (by decide) (by decide))
  have e3 : openF key 0 [110, 111] = (zF, .no 2) := by unfold openF; rw [if_pos (by decide)]
  rw [os] at ho
  rw [os2] at ho2
  rw [e3] at ho3
  have hlet := let_new told_zero (n := 3) (by omega) (by omega)
  have t1 := told_new told_zero (n := 3) (by omega)
  have hlet2 := let_add t1 (n := 2) (by omega) (by omega) (by omega) (by omega) (by simp)
  rw [← fs] at hlet hlet2
  rw [← gs] at hlet2
  simp only [letJ]
  rw [← hf, ← hf2, sealref_eq (by omega) wk wb ok (by rw [fb]; decide), Option.bind_some, come_in (g := ⟨key, 0, ⟨0, 0⟩, ⟨⟨#[]⟩, 0⟩⟩) ho hlet, Option.bind_some]
  simp only
  rw [if_pos (show f.Seq > (0 : Int) by rw [fs]; decide), sealref_eq (by omega) wk wg ok2 (by rw [gb]; decide), Option.bind_some, come_in (g := ⟨key, 0, _, ⟨_, f.Seq⟩⟩) ho2 hlet2, Option.bind_some]
  simp only
  rw [if_neg (show ¬ f2.Seq > f.Seq by rw [fs, gs]; decide), come_err (g := ⟨key, 0, _, _⟩) ho3 (fun h => by cases h), Option.bind_some, if_pos trivial, fb]
  have st : (strOf [98] == (⟨#[98]⟩ : ByteArray)) = true := by decide
  have k1 : ∀ g : roam_Gate, roam_Gate_Known.m g = some (decide (g.Peer.Seq > 0)) := fun _ => rfl
  have c2 : api_Code.m (GoErr.no 2) = some 2 := rfl
  rw [st, cond_true, k1, Option.bind_some, k1, Option.bind_some]
  simp only
  rw [fs, bself]
  simp [c2]
theorem newest_loop {x0 : List Int} {x1 : List shutterlaw21_Mail} (hk : x0.length ≤ 100) (w0 : ∀ y ∈ x0, Wf .u8 y) (w1 : ∀ y ∈ x1, Wf .u16 y.Seq) (hl : x1.length ≤ 40) :
    ∀ (k : Nat) (top : Nat) (who : ByteArray) (inn : List Bool) (i : Int) (s : api_Seen) (bits : Nat), 0 ≤ i → i ≤ (x1.length : Int) → (x1.length : Int) - i < (k : Int) → Told s top bits (fun m => at_ inn (m : Int) = true) → top ≤ 500 → inn.length = 65536 →
    ∃ (t : Nat) (a b : Int) (c : ByteArray), shutterlaw21_RoamNewest.l1.m KK x0 x1 k (top : Int) who inn i x0 1 s.Top s.Bits who (top : Int) = some (.inr ((t : Int), x0, 1, a, b, c, (t : Int))) := by
  intro k
  induction k with
  | zero => intro top who inn i s bits _ _ h; omega
  | succ k ih =>
    intro top who inn i s bits i0 i1 hk' told ht hin
    rw [shutterlaw21_RoamNewest.l1.m]
    by_cases h3 : i < (x1.length : Int)
    · have hm := at_memG (l := x1) i0 h3
      have bs := b_u16 (w1 _ hm)
      obtain ⟨n, hn, n1, n2⟩ : ∃ n : Nat, w64 (1 + Int.tmod (w64 (at_ x1 i).Seq) 500) = (n : Int) ∧ 1 ≤ n ∧ n ≤ 500 := by
        rw [w64_id (n := (at_ x1 i).Seq) (by omega) (by omega), Int.tmod_eq_emod_of_nonneg bs.1]
        refine ⟨(1 + (at_ x1 i).Seq % 500).toNat, ?_, by omega, by omega⟩
        rw [w64_id (by omega) (by omega)]; omega
      rw [hn, if_pos h3, if_pos i0]
      have wb : ∀ y ∈ [IntKind.u8.wrap i], Wf .u8 y := fun y hy => by
        rw [List.mem_singleton] at hy; rw [hy]; exact wf_wrap8 _
      obtain ⟨f, hf⟩ : ∃ f : api_Frame, f = ⟨1, (n : Int), [IntKind.u8.wrap i]⟩ := ⟨_, rfl⟩
      have fb : f.Body = [IntKind.u8.wrap i] := by rw [hf]
      have fl : f.Body.length = 1 := by rw [fb]; rfl
      have fs : f.Seq = (n : Int) := by rw [hf]
      have fd : f.Dir = 1 := by rw [hf]
      have ok : okF f := by rw [hf]; exact ⟨.inr rfl, show (1 : Int) ≤ n by omega, show (n : Int) ≤ 4611686018427387904 by omega⟩
      have so := sealT_ok (k := x0) (f := f) w0 (by rw [fb]; exact wb)
      have os := (open_seal (k := x0) (f := f) w0 (by rw [fb]; exact wb) ok (by omega)).1
      rw [fd] at os
      rw [← hf, sealref_eq (by omega) w0 (by rw [fb]; exact wb) ok (by omega), Option.bind_some]
      simp only [letJ]
      cases hF : (at_ x1 i).Forged with
      | true =>
        have lm : w64 (((sealT x0 f).length : Int) - 1) = ((25 + f.Body.length : Nat) : Int) := by rw [w64_id (by omega) (by omega)]; omega
        rw [cond_true, cond_true, lm, if_pos (by omega), if_pos (by omega)]
        have hw : Wf .u8 (at_ (sealT x0 f) ((25 + f.Body.length : Nat) : Int)) := so.2 _ (at_mem (by omega) (by omega))
        have fe := forged_eq (dir := 1) (v := bXor .u8 (at_ (sealT x0 f) ((25 + f.Body.length : Nat) : Int)) 1) w0 (by rw [fb]; exact wb) (by omega) rfl (xor1_ne hw)
        have ws : ∀ y ∈ (sealT x0 f).set (25 + f.Body.length) (bXor .u8 (at_ (sealT x0 f) ((25 + f.Body.length : Nat) : Int)) 1), Wf .u8 y := fun y hy => by
          rcases List.mem_or_eq_of_mem_set hy with h | rfl
          · exact so.2 y h
          · exact xor_wf _ _
        have ho := open_eq (k := x0) (dir := 1) (by omega) w0 ws
        rw [fe] at ho
        rw [Int.toNat_natCast, come_err (g := ⟨x0, 1, ⟨s.Top, s.Bits⟩, ⟨who, (top : Int)⟩⟩) ho (fun h => by cases h), Option.bind_some]
        simp only
        rw [if_neg (fun h => by cases h), cond_true, same21_eq (g := ⟨x0, 1, ⟨s.Top, s.Bits⟩, ⟨who, (top : Int)⟩⟩) (show x0.length ≤ 100000 by omega), Option.bind_some, cond_true, if_pos (show (([] : List Int).length : Int) = 0 from rfl), cond_true, w64_id (by omega) (by omega)]
        exact ih top who inn (i + 1) s bits (by omega) (by omega) (by omega) told ht hin
      | false =>
        rw [cond_false, cond_false]
        have ho := open_eq (k := x0) (dir := 1) (by omega) w0 so.2
        rw [os] at ho
        have set_told : ∀ (s' : api_Seen) (top' bits' : Nat), Told s' top' bits' (fun m => m = n ∨ at_ inn (m : Int) = true) → Told s' top' bits' (fun m => at_ (inn.set n true) (m : Int) = true) := fun s' top' bits' td => td.congr fun m => by
          rw [at_setG (by omega)]
          by_cases h : m = n
          · simp [h]
          · simp [h]
        by_cases hnew : top < n
        · have hfr : at_ inn (n : Int) = false := by
            cases h : at_ inn (n : Int) with
            | false => rfl
            | true => have := told.le n h; omega
          have hlet := let_new told hnew (by omega)
          rw [← fs] at hlet
          rw [come_in (g := ⟨x0, 1, ⟨s.Top, s.Bits⟩, ⟨who, (top : Int)⟩⟩) ho hlet, Option.bind_some]
          simp only
          rw [if_pos trivial, cond_false, cond_false, if_pos (by omega), if_pos (by omega), hfr, cond_false, fb, if_pos (show (([IntKind.u8.wrap i].length : Nat) : Int) = 1 from rfl), if_pos (show (0 : Int) < (([IntKind.u8.wrap i].length : Nat) : Int) from by rw [List.length_singleton]; decide),
            if_pos (show at_ [IntKind.u8.wrap i] 0 = IntKind.u8.wrap i from rfl), if_pos (show (n : Int) > (top : Int) by omega), fs, if_pos (show (n : Int) > (top : Int) by omega)]
          simp only [bself, beq_self_eq_true, Bool.and_true, cond_true]
          rw [w64_id (by omega) (by omega), Int.toNat_natCast]
          have td := set_told _ _ _ (told_new told hnew)
          exact ih n _ _ (i + 1) _ _ (by omega) (by omega) (by omega) td n2 (by rw [List.length_set]; exact hin)
        · by_cases hold : 64 ≤ top - n ∨ at_ inn (n : Int) = true
          · have hlet := let_old told n1 (by omega) (by omega) hold
            rw [← fs] at hlet
            rw [come_old (g := ⟨x0, 1, ⟨s.Top, s.Bits⟩, ⟨who, (top : Int)⟩⟩) ho hlet (fun h => by cases h), Option.bind_some]
            simp only
            rw [if_neg (fun h => by cases h), cond_true, same21_eq (g := ⟨x0, 1, ⟨s.Top, s.Bits⟩, ⟨who, (top : Int)⟩⟩) (show x0.length ≤ 100000 by omega), Option.bind_some, cond_true, if_pos (show (([] : List Int).length : Int) = 0 from rfl), cond_false, if_neg (by omega), w64_id (by omega) (by omega)]
            exact ih top who inn (i + 1) s bits (by omega) (by omega) (by omega) told ht hin
          · have hfr : at_ inn (n : Int) = false := by
              cases h : at_ inn (n : Int) with
              | false => rfl
              | true => exact absurd (.inr h) hold
            have h64 : top - n < 64 := by
              rcases Nat.lt_or_ge (top - n) 64 with h | h
              · exact h
              · exact absurd (.inl h) hold
            have hlet := let_add told n1 (by omega) (by omega) h64 (by rw [hfr]; simp)
            rw [← fs] at hlet
            rw [come_in (g := ⟨x0, 1, ⟨s.Top, s.Bits⟩, ⟨who, (top : Int)⟩⟩) ho hlet, Option.bind_some]
            simp only
            rw [if_pos trivial, cond_false, cond_false, if_pos (by omega), if_pos (by omega), hfr, cond_false, fb, if_pos (show (([IntKind.u8.wrap i].length : Nat) : Int) = 1 from rfl), if_pos (show (0 : Int) < (([IntKind.u8.wrap i].length : Nat) : Int) from by rw [List.length_singleton]; decide),
              if_pos (show at_ [IntKind.u8.wrap i] 0 = IntKind.u8.wrap i from rfl), if_neg (show ¬ (n : Int) > (top : Int) by omega), fs, if_neg (show ¬ (n : Int) > (top : Int) by omega)]
            simp only [bself, beq_self_eq_true, Bool.and_true, cond_true]
            rw [w64_id (by omega) (by omega), Int.toNat_natCast]
            have td := set_told _ _ _ (told_add told n1 (by omega) h64)
            exact ih top who _ (i + 1) _ _ (by omega) (by omega) (by omega) td ht (by rw [List.length_set]; exact hin)
    · rw [if_neg h3]
      exact ⟨top, s.Top, s.Bits, who, rfl⟩
theorem RoamNewest_true (x0 : (List Int)) (x1 : (List shutterlaw21_Mail)) (w0 : ∀ y ∈ x0, Wf .u8 y) (_ : x0.length ≤ maxLen) (w1 : ∀ y ∈ x1, ok_shutterlaw21_Mail y) (_ : x1.length ≤ maxLen) : shutterlaw21_RoamNewest.m KK x0 x1 = some true := by
  unfold shutterlaw21_RoamNewest.m
  rw [awake21, Option.bind_some, cond_true]
  by_cases h0 : (x0.length : Int) > 100
  · rw [if_pos h0, Option.bind_some]
  rw [if_neg h0]
  by_cases h1 : (x1.length : Int) > 40
  · rw [if_pos h1, Option.bind_some]
  rw [if_neg h1]
  have hm : mk 65536 false = some (List.replicate 65536 false) := by unfold mk; rfl
  rw [hm, Option.bind_some]
  have tz : Told ⟨0, 0⟩ 0 0 (fun m => at_ (List.replicate 65536 false) (m : Int) = true) := told_zero.congr fun m => by
    refine ⟨fun h => h.elim, fun h => ?_⟩
    unfold at_ at h
    rw [List.getD_eq_getElem?_getD, List.getElem?_replicate] at h
    split at h <;> cases h
  obtain ⟨t, a, b, c, e⟩ := newest_loop (x0 := x0) (x1 := x1) (by omega) w0 (fun y hy => (w1 y hy).1) (by omega) KK 0 ⟨#[]⟩ (List.replicate 65536 false) 0 ⟨0, 0⟩ 0 (by omega) (by omega) (by unfold KK; omega) tz (by omega) (List.length_replicate ..)
  have e' : shutterlaw21_RoamNewest.l1.m KK x0 x1 KK 0 (⟨#[]⟩ : ByteArray) (List.replicate 65536 false) 0 x0 1 0 0 (⟨#[]⟩ : ByteArray) 0 = _ := e
  rw [e', Option.bind_some]
  simp only
  unfold roam_Gate_Known.m
  rw [Option.bind_some]
  simp
theorem turn_all21 : ∀ (k : Nat) (l : List Int) (i : Int), 0 ≤ i → i ≤ (l.length : Int) → (l.length : Int) - i < (k : Int) → l.length ≤ 100000 → shutterlaw21_RoamKeeps.l1.m KK k l i = some () := by
  intro k
  induction k with
  | zero => intro l i _ _ h; omega
  | succ k ih =>
    intro l i h0 h1 hk hl
    rw [shutterlaw21_RoamKeeps.l1.m]
    by_cases h3 : i < (l.length : Int)
    · rw [if_pos h3, if_pos h0, w64_id (by omega) (by omega), ih _ _ (by omega) (by rw [List.length_set]; omega) (by rw [List.length_set]; omega) (by rw [List.length_set]; omega)]
    · rw [if_neg h3]
theorem RoamKeeps_true (x0 : (List Int)) (x1 : (List Int)) (w0 : ∀ y ∈ x0, Wf .u8 y) (_ : x0.length ≤ maxLen) (w1 : ∀ y ∈ x1, Wf .u8 y) (_ : x1.length ≤ maxLen) : shutterlaw21_RoamKeeps.m KK x0 x1 = some true := by
  unfold shutterlaw21_RoamKeeps.m
  rw [awake21, Option.bind_some, cond_true]
  by_cases h0 : (x0.length : Int) > 100
  · rw [if_pos h0, Option.bind_some]
  rw [if_neg h0]
  by_cases h1 : (x1.length : Int) > 200
  · rw [if_pos h1, Option.bind_some]
  obtain ⟨f, hf⟩ : ∃ f : api_Frame, f = ⟨0, 9, x1⟩ := ⟨_, rfl⟩
  have fb : f.Body = x1 := by rw [hf]
  have fs : f.Seq = ((9 : Nat) : Int) := by rw [hf]; rfl
  have fd : f.Dir = 0 := by rw [hf]
  have ok : okF f := by rw [hf]; exact ⟨.inl rfl, show (1 : Int) ≤ 9 by decide, show (9 : Int) ≤ 4611686018427387904 by decide⟩
  have so := sealT_ok (k := x0) (f := f) w0 (by rw [fb]; exact w1)
  rw [fb] at so
  have os := (open_seal (k := x0) (f := f) w0 (by rw [fb]; exact w1) ok (by rw [fb]; omega)).1
  rw [fd] at os
  have ho := open_eq (k := x0) (dir := 0) (by omega) w0 so.2
  rw [os] at ho
  have hlet := let_new told_zero (n := 9) (by omega) (by omega)
  rw [← fs] at hlet
  rw [if_neg h1, ← hf, app_ok (by simp; omega), Option.bind_some, sealref_eq (by omega) w0 (by rw [fb]; exact w1) ok (by rw [fb]; omega), Option.bind_some, app_ok (by simp; omega), Option.bind_some, List.nil_append, List.nil_append,
    come_in (g := ⟨x0, 0, ⟨0, 0⟩, ⟨⟨#[]⟩, 0⟩⟩) ho hlet, Option.bind_some]
  simp only
  rw [if_pos trivial, same_eq (by omega), Option.bind_some, beq_self_eq_true, cond_true, same_eq (by omega), Option.bind_some, beq_self_eq_true, cond_true]
  have c : ((0 == 0) && ((0 == 0) && true)) = true := rfl
  rw [c, cond_true, turn_all21 KK _ 0 (by omega) (by omega) (by unfold KK; omega) (by omega), Option.bind_some, fb, same_eq (by omega), Option.bind_some, beq_self_eq_true]
theorem RoamAgain_true (x0 : (List Int)) (x1 : Int) (x2 : ByteArray) (x3 : ByteArray) (x4 : (List Int)) (w0 : ∀ y ∈ x0, Wf .u8 y) (_ : x0.length ≤ maxLen) (wn : Wf .u32 x1) (_ : x2.size ≤ maxLen) (_ : x3.size ≤ maxLen) (w4 : ∀ y ∈ x4, Wf .u8 y) (_ : x4.length ≤ maxLen) : shutterlaw21_RoamAgain.m KK x0 x1 x2 x3 x4 = some true := by
  unfold shutterlaw21_RoamAgain.m
  rw [awake21, Option.bind_some, cond_true]
  by_cases h0 : (x0.length : Int) > 100
  · rw [if_pos h0, Option.bind_some]
  rw [if_neg h0]
  by_cases h1 : (x4.length : Int) > 200
  · rw [if_pos h1, Option.bind_some]
  have bn := bounds_u32 wn
  obtain ⟨n, hn, n1, n2⟩ : ∃ n : Nat, w64 (1 + w64 x1) = (n : Int) ∧ 1 ≤ n ∧ n ≤ 4294967296 := by
    rw [w64_id (n := x1) (by omega) (by omega), w64_id (by omega) (by omega)]
    exact ⟨(1 + x1).toNat, by omega, by omega, by omega⟩
  rw [if_neg h1, hn]
  obtain ⟨f, hf⟩ : ∃ f : api_Frame, f = ⟨1, (n : Int), x4⟩ := ⟨_, rfl⟩
  have fb : f.Body = x4 := by rw [hf]
  have fs : f.Seq = (n : Int) := by rw [hf]
  have fd : f.Dir = 1 := by rw [hf]
  have ok : okF f := by rw [hf]; exact ⟨.inr rfl, show (1 : Int) ≤ n by omega, show (n : Int) ≤ 4611686018427387904 by omega⟩
  have so := sealT_ok (k := x0) (f := f) w0 (by rw [fb]; exact w4)
  rw [fb] at so
  have os := (open_seal (k := x0) (f := f) w0 (by rw [fb]; exact w4) ok (by rw [fb]; omega)).1
  rw [fd] at os
  have ho := open_eq (k := x0) (dir := 1) (by omega) w0 so.2
  rw [os] at ho
  have hlet := let_new told_zero (n := n) (by omega) (by omega)
  have t1 := told_new told_zero (n := n) (by omega)
  have hold := let_old t1 n1 (Nat.le_refl _) (by omega) (.inr (.inl rfl))
  rw [← fs] at hlet hold
  rw [← hf, sealref_eq (by omega) w0 (by rw [fb]; exact w4) ok (by rw [fb]; omega), Option.bind_some, come_in (g := ⟨x0, 1, ⟨0, 0⟩, ⟨⟨#[]⟩, 0⟩⟩) ho hlet, Option.bind_some]
  simp only
  rw [if_pos (show f.Seq > (0 : Int) by rw [fs]; omega)]
  rw [come_old (g := ⟨x0, 1, _, ⟨x2, f.Seq⟩⟩) ho hold (fun h => by cases h), Option.bind_some]
  simp only
  have c12 : api_Code.m (GoErr.no 12) = some 12 := rfl
  rw [if_pos trivial, fb, same_eq (by omega), Option.bind_some, beq_self_eq_true, cond_true, c12, Option.bind_some, if_pos rfl, if_pos (show (([] : List Int).length : Int) = 0 from rfl), same21_eq (show x0.length ≤ 100000 by omega), Option.bind_some, cond_true, fs, bself]
  simp
end Go.Proofs.YtpkcckaaocannaaDoor.Sx
