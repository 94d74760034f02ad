/- Package frame: FrameBack, FrameForged, FrameKeeps. -/
import Derived.Test.YtgljelhakcallaaDoorFD
namespace Go.Proofs.YtgljelhakcallaaDoor.Sx
open Go
set_option maxRecDepth 100000

theorem sealT_tx {k : List Int} {f : api_Frame} (wk : ∀ y ∈ k, Wf .u8 y) (wb : ∀ y ∈ f.Body, Wf .u8 y) : tx (sealT k f) = txt f ∧ tg (sealT k f) = sub (hmac k (txt f)) 0 16 := by
  have l := (sealT_ok wk wb).1
  have e : (sealT k f).length - 16 = (txt f).length := by rw [txt_len]; omega
  unfold tx tg
  rw [e]; unfold sealT
  exact ⟨List.take_left' rfl, List.drop_left' rfl⟩
theorem sealT_at {k : List Int} {f : api_Frame} (o : okF f) : at_ (sealT k f) 0 = 1 ∧ at_ (sealT k f) 1 = f.Dir := by
  refine ⟨rfl, ?_⟩
  have : at_ (sealT k f) 1 = IntKind.u8.wrap f.Dir := rfl
  rw [this, wrap_u8]; rcases o.1 with d | d <;> rw [d] <;> rfl
theorem sealT_seq {k : List Int} {f : api_Frame} (o : okF f) : seqOf (sealT k f) = f.Seq := by
  have e : sub (sealT k f) 2 10 = sbs f.Seq 8 0 := by
    unfold sub sealT txt
    rw [show (10 : Int).toNat - (2 : Int).toNat = 8 from rfl, show (2 : Int).toNat = 2 from rfl, List.cons_append, List.cons_append, List.drop_succ_cons, List.drop_succ_cons, List.drop_zero, List.append_assoc]
    exact List.take_left' (sbs_len _ _ _)
  unfold seqOf
  rw [e]; exact fval_sbs (by have := o.2.1; omega) o.2.2
theorem txt_body (f : api_Frame) : (txt f).drop 10 = f.Body := by
  unfold txt
  rw [List.drop_succ_cons, List.drop_succ_cons]
  exact List.drop_left' (sbs_len _ _ _)
theorem open_seal {k : List Int} {f : api_Frame} (wk : ∀ y ∈ k, Wf .u8 y) (wb : ∀ y ∈ f.Body, Wf .u8 y) (o : okF f) (hb : f.Body.length ≤ 486) :
    openF k f.Dir (sealT k f) = (f, .nil) ∧ openF k (1 - f.Dir) (sealT k f) = (zF, .no 13) := by
  have l := (sealT_ok wk wb).1
  have a := sealT_at (k := k) o
  have s := sealT_tx wk wb
  have q := sealT_seq (k := k) o
  have tb := txt_body f
  constructor
  · unfold openF
    rw [if_neg (by omega), if_neg (by omega), s.1, s.2, if_pos rfl, if_pos a, q, if_pos ⟨⟨o.2.1, o.2.2⟩, o.1⟩, tb]
  · unfold openF
    rw [if_neg (by omega), if_neg (by omega), s.1, s.2, if_pos rfl, if_neg (fun h => by rw [a.2] at h; rcases o.1 with d | d <;> rw [d] at h <;> exact absurd h.2 (by decide))]
theorem list8' {h : List Int} (k : h.length = 8) : ∃ a b c d e f g i, h = [a, b, c, d, e, f, g, i] := by
  rcases h with _ | ⟨a, _ | ⟨b, _ | ⟨c, _ | ⟨d, _ | ⟨e, _ | ⟨f, _ | ⟨g, _ | ⟨i, _ | ⟨j, t⟩⟩⟩⟩⟩⟩⟩⟩⟩ <;> simp at k
  exact ⟨a, b, c, d, e, f, g, i, rfl⟩
theorem sbs_fval {l : List Int} (hl : l.length = 8) (wl : ∀ y ∈ l, Wf .u8 y) : sbs (fval l 0) 8 0 = l := by
  obtain ⟨a, b, c, d, e, f, g, i, rfl⟩ := list8' hl
  have w := fun y h => b_u8 (wl y h)
  simp only [List.mem_cons, List.not_mem_nil, or_false, forall_eq_or_imp, forall_eq] at w
  obtain ⟨w1, w2, w3, w4, w5, w6, w7, w8⟩ := w
  obtain ⟨a, rfl⟩ := Int.eq_ofNat_of_zero_le w1.1
  obtain ⟨b, rfl⟩ := Int.eq_ofNat_of_zero_le w2.1
  obtain ⟨c, rfl⟩ := Int.eq_ofNat_of_zero_le w3.1
  obtain ⟨d, rfl⟩ := Int.eq_ofNat_of_zero_le w4.1
  obtain ⟨e, rfl⟩ := Int.eq_ofNat_of_zero_le w5.1
  obtain ⟨f, rfl⟩ := Int.eq_ofNat_of_zero_le w6.1
  obtain ⟨g, rfl⟩ := Int.eq_ofNat_of_zero_le w7.1
  obtain ⟨i, rfl⟩ := Int.eq_ofNat_of_zero_le w8.1
  have hN : fval [(a : Int), (b : Int), (c : Int), (d : Int), (e : Int), (f : Int), (g : Int), (i : Int)] 0 = (((((((((a * 256 + b) * 256 + c) * 256 + d) * 256 + e) * 256 + f) * 256 + g) * 256 + i : Nat)) : Int) := by
    simp only [fval]; omega
  rw [hN]
  generalize hq : (((((((a * 256 + b) * 256 + c) * 256 + d) * 256 + e) * 256 + f) * 256 + g) * 256 + i : Nat) = q
  simp only [sbs]
  rw [sb_nat (n := 56) 0 (by omega) (by omega), sb_nat (n := 48) (0 + 1) (by omega) (by omega), sb_nat (n := 40) (0 + 1 + 1) (by omega) (by omega), sb_nat (n := 32) (0 + 1 + 1 + 1) (by omega) (by omega), sb_nat (n := 24) (0 + 1 + 1 + 1 + 1) (by omega) (by omega),
    sb_nat (n := 16) (0 + 1 + 1 + 1 + 1 + 1) (by omega) (by omega), sb_nat (n := 8) (0 + 1 + 1 + 1 + 1 + 1 + 1) (by omega) (by omega), sb_nat (n := 0) (0 + 1 + 1 + 1 + 1 + 1 + 1 + 1) (by omega) (by omega)]
  rw [div8 q 48, div8 q 40, div8 q 32, div8 q 24, div8 q 16, div8 q 8, div8 q 0, Nat.pow_zero, Nat.div_one]
  have q0 : q % 256 = i ∧ q / 256 = ((((((a * 256 + b) * 256 + c) * 256 + d) * 256 + e) * 256 + f) * 256 + g) := by omega
  rw [q0.1, q0.2]
  clear hq q0 hN
  have q1 : ((((((a * 256 + b) * 256 + c) * 256 + d) * 256 + e) * 256 + f) * 256 + g) % 256 = g ∧ ((((((a * 256 + b) * 256 + c) * 256 + d) * 256 + e) * 256 + f) * 256 + g) / 256 = (((((a * 256 + b) * 256 + c) * 256 + d) * 256 + e) * 256 + f) := by omega
  have q2 : (((((a * 256 + b) * 256 + c) * 256 + d) * 256 + e) * 256 + f) % 256 = f ∧ (((((a * 256 + b) * 256 + c) * 256 + d) * 256 + e) * 256 + f) / 256 = ((((a * 256 + b) * 256 + c) * 256 + d) * 256 + e) := by omega
  have q3 : ((((a * 256 + b) * 256 + c) * 256 + d) * 256 + e) % 256 = e ∧ ((((a * 256 + b) * 256 + c) * 256 + d) * 256 + e) / 256 = (((a * 256 + b) * 256 + c) * 256 + d) := by omega
  have q4 : (((a * 256 + b) * 256 + c) * 256 + d) % 256 = d ∧ (((a * 256 + b) * 256 + c) * 256 + d) / 256 = ((a * 256 + b) * 256 + c) := by omega
  have q5 : ((a * 256 + b) * 256 + c) % 256 = c ∧ ((a * 256 + b) * 256 + c) / 256 = (a * 256 + b) := by omega
  have q6 : (a * 256 + b) % 256 = b ∧ (a * 256 + b) / 256 = a := by omega
  have q7 : a % 256 = a := by omega
  rw [q1.1, q1.2, q2.1, q2.2, q3.1, q3.2, q4.1, q4.2, q5.1, q5.2, q6.1, q6.2, q7]
theorem split10 {l : List Int} (h : 10 ≤ l.length) : at_ l 0 :: at_ l 1 :: (sub l 2 10 ++ l.drop 10) = l := by
  have e0 := drop_at (l := l) (i := 0) (by omega) (by omega)
  have e1 := drop_at (l := l) (i := 1) (by omega) (by omega)
  have e2 : sub l 2 10 ++ l.drop 10 = l.drop 2 := by
    unfold sub
    have := List.take_append_drop 8 (l.drop 2)
    rw [List.drop_drop] at this
    exact this
  rw [e2, show l.drop 2 = l.drop ((1 : Int) + 1).toNat from rfl, ← e1, show l.drop (1 : Int).toNat = l.drop ((0 : Int) + 1).toNat from rfl, ← e0]; rfl
theorem seal_open {k b : List Int} {dir : Int} {g : api_Frame} (wb : ∀ y ∈ b, Wf .u8 y) (h : openF k dir b = (g, .nil)) : sealF k g = (b, .nil) ∧ (∀ y ∈ g.Body, Wf .u8 y) ∧ g.Body.length ≤ 486 := by
  unfold openF at h
  by_cases h1 : b.length < 26
  · rw [if_pos h1] at h; cases h
  rw [if_neg h1] at h
  by_cases h2 : b.length > 512
  · rw [if_pos h2] at h; cases h
  rw [if_neg h2] at h
  by_cases h3 : sub (hmac k (tx b)) 0 16 = tg b
  · rw [if_pos h3] at h
    by_cases c : at_ b 0 = 1 ∧ at_ b 1 = dir
    · rw [if_pos c] at h
      by_cases o : (1 ≤ seqOf b ∧ seqOf b ≤ 4611686018427387904) ∧ (dir = 0 ∨ dir = 1)
      · rw [if_pos o] at h
        obtain rfl := (Prod.mk.inj h).1
        have tl : (tx b).length = b.length - 16 := by unfold tx; rw [List.length_take]; omega
        have s8 : (sub b 2 10).length = 8 := by rw [sub_length (by omega)]; rfl
        have a0 : at_ (tx b) 0 = at_ b 0 := at_take (by omega) (by omega)
        have a1 : at_ (tx b) 1 = at_ b 1 := at_take (by omega) (by omega)
        have e : txt ⟨dir, seqOf b, (tx b).drop 10⟩ = tx b := by
          unfold txt
          have hd : IntKind.u8.wrap dir = dir := by rw [wrap_u8]; rcases o.2 with d | d <;> rw [d] <;> rfl
          have hs : sbs (seqOf b) 8 0 = sub (tx b) 2 10 := by unfold seqOf; rw [sbs_fval s8 (sub_ok wb _ _), sub_tx (by omega)]
          simp only
          rw [hd, hs, ← c.2, ← a1, show (1 : Int) = at_ (tx b) 0 from (a0.trans c.1).symm, show at_ (tx b) (at_ (tx b) 0) = at_ (tx b) 1 by rw [a0, c.1]]
          exact split10 (by omega)
        have hb : ((tx b).drop 10).length ≤ 486 := by rw [List.length_drop]; omega
        refine ⟨?_, fun y hy => wb y (List.mem_of_mem_take (List.mem_of_mem_drop hy)), hb⟩
        unfold sealF sealT
        rw [if_pos (show okF ⟨dir, seqOf b, (tx b).drop 10⟩ from ⟨o.2, o.1.1, o.1.2⟩), if_neg (show ¬ ((tx b).drop 10).length > 486 by omega), e, h3]
        unfold tx tg; rw [List.take_append_drop]
      · rw [if_neg o] at h; cases h
    · rw [if_neg c] at h; cases h
  · rw [if_neg h3] at h; cases h
theorem open_err (k b : List Int) (dir : Int) : ((openF k dir b).2 = .nil ∨ openF k dir b = (zF, (openF k dir b).2)) ∧ api_Code.m (openF k dir b).2 = some (errNo (openF k dir b).2) := by
  unfold openF
  split
  · exact ⟨.inr rfl, rfl⟩
  split
  · exact ⟨.inr rfl, rfl⟩
  split
  · split
    · split
      · exact ⟨.inl rfl, rfl⟩
      · exact ⟨.inr rfl, rfl⟩
    · exact ⟨.inr rfl, rfl⟩
  · exact ⟨.inr rfl, rfl⟩
theorem FrameBack_true (x0 : (List Int)) (x1 : api_Frame) (x2 : (List Int)) (x3 : Int) (w0 : ∀ y ∈ x0, Wf .u8 y) (_ : x0.length ≤ maxLen) (k1 : ok_api_Frame x1) (w2 : ∀ y ∈ x2, Wf .u8 y) (_ : x2.length ≤ maxLen) (_ : Wf .i64 x3) : shutterlaw19_FrameBack.m KK x0 x1 x2 x3 = some true := by
  obtain ⟨_, _, w1, _⟩ := k1
  unfold shutterlaw19_FrameBack.m
  rw [awake19, Option.bind_some, cond_true]
  by_cases h0 : (x0.length : Int) > 200
  · rw [if_pos h0, Option.bind_some]
  rw [if_neg h0]
  by_cases h1 : (x1.Body.length : Int) > 1000
  · rw [if_pos h1, Option.bind_some]
  rw [if_neg h1]
  by_cases h2 : (x2.length : Int) > 1000
  · rw [if_pos h2, Option.bind_some]
  rw [if_neg h2, seal_eq (by omega) w0 w1, Option.bind_some]
  simp only [letJ]
  have rest : ((frame_Open.m KK x0 x3 x2).bind fun t78 => (if t78.2 = GoErr.nil then ((frame_Seal.m KK x0 t78.1).bind fun t89 => (if t89.2 = GoErr.nil then ((shutterref01_Same.m KK t89.1 x2).bind fun t99 => (some t99)) else (some false))) else ((shutterref19_Same.m KK t78.1 (⟨0, 0, []⟩ : api_Frame)).bind fun t100 => (some t100)))) = some true := by
    rw [open_eq (by omega) w0 w2, Option.bind_some]
    by_cases e : (openF x0 x3 x2).2 = .nil
    · rw [if_pos e]
      have hp : openF x0 x3 x2 = ((openF x0 x3 x2).1, .nil) := by rw [← e]
      obtain ⟨s, wg, hg⟩ := seal_open w2 hp
      rw [seal_eq (by omega) w0 wg, Option.bind_some, s, if_pos rfl, same_eq (show x2.length ≤ 100000 by omega), Option.bind_some, beq_self_eq_true]
    · rw [if_neg e]
      rcases (open_err x0 x2 x3).1 with h | h
      · exact absurd h e
      · rw [h, same19_eq (by unfold zF; simp), Option.bind_some]; congr 1
  rw [rest]
  unfold sealF
  by_cases o : okF x1
  · rw [if_pos o]
    by_cases hb : x1.Body.length > 486
    · rw [if_pos hb, if_neg (fun h => by cases h), cond_false]
    · have so := sealT_ok (f := x1) w0 w1
      have os := open_seal w0 w1 o (by omega)
      have hd : w64 (1 - x1.Dir) = 1 - x1.Dir := w64_id (by rcases o.1 with d | d <;> omega) (by rcases o.1 with d | d <;> omega)
      rw [if_neg hb, if_pos rfl, cond_true, hd, open_eq (by omega) w0 so.2, Option.bind_some, open_eq (by omega) w0 so.2, Option.bind_some, os.1, os.2, if_pos rfl, same19_eq (show x1.Body.length ≤ 100000 by omega), Option.bind_some, beq_self_eq_true, cond_true]
      have hl : ((sealT x0 x1).length : Int) = w64 ((x1.Body.length : Int) + 26) := by rw [w64_id (by omega) (by omega)]; omega
      have c13 : api_Code.m (GoErr.no 13) = some 13 := rfl
      simp only
      rw [c13, Option.bind_some, if_pos rfl, if_pos hl]
  · rw [if_neg o, if_neg (fun h => by cases h), cond_false]
theorem set_at {l : List Int} {p : Int} (h0 : 0 ≤ p) (h1 : p < (l.length : Int)) : l.set p.toNat (at_ l p) = l := by
  have : p.toNat < l.length := by omega
  unfold at_
  rw [List.getD_eq_getElem?_getD, List.getElem?_eq_getElem this, Option.getD_some, List.set_getElem_self]
theorem FrameForged_true (x0 : (List Int)) (x1 : api_Frame) (x2 : Int) (x3 : Int) (w0 : ∀ y ∈ x0, Wf .u8 y) (_ : x0.length ≤ maxLen) (k1 : ok_api_Frame x1) (w2 : Wf .u16 x2) (w3 : Wf .u8 x3) : shutterlaw19_FrameForged.m KK x0 x1 x2 x3 = some true := by
  obtain ⟨_, _, w1, _⟩ := k1
  unfold shutterlaw19_FrameForged.m
  rw [awake19, Option.bind_some, cond_true]
  by_cases h0 : (x0.length : Int) > 200
  · rw [if_pos h0, Option.bind_some]
  rw [if_neg h0]
  by_cases h1 : (x1.Body.length : Int) > 486
  · rw [if_pos h1, Option.bind_some]
  rw [if_neg h1, wrong_eq, Option.bind_some]
  unfold wrongOf
  by_cases o : okF x1
  · have so := sealT_ok (f := x1) w0 w1
    rw [if_pos o, if_neg (show ¬ x1.Body.length > 486 by omega), if_pos rfl, sealref_eq (by omega) w0 w1 o (by omega), Option.bind_some]
    have b2 := b_u16 w2
    have hp : w64 x2 = x2 := w64_id (by omega) (by omega)
    have ht : Int.tmod x2 ((sealT x0 x1).length : Int) = x2 % ((sealT x0 x1).length : Int) := Int.tmod_eq_emod_of_nonneg b2.1
    have t0 : 0 ≤ x2 % ((sealT x0 x1).length : Int) := Int.emod_nonneg _ (by omega)
    have t1 : x2 % ((sealT x0 x1).length : Int) < ((sealT x0 x1).length : Int) := Int.emod_lt_of_pos _ (by omega)
    rw [hp, ht, if_pos (by omega), if_pos t0, if_pos t1]
    generalize x2 % ((sealT x0 x1).length : Int) = p at t0 t1
    have ws : ∀ y ∈ (sealT x0 x1).set p.toNat (bXor .u8 (at_ (sealT x0 x1) p) x3), Wf .u8 y := fun y hy => by
      rcases List.mem_or_eq_of_mem_set hy with h | rfl
      · exact so.2 y h
      · exact xor_wf _ _
    have hz : x3 = 0 → (sealT x0 x1).set p.toNat (bXor .u8 (at_ (sealT x0 x1) p) x3) = sealT x0 x1 := fun e => by
      have bb := b_u8 (so.2 _ (at_mem (l := sealT x0 x1) t0 t1))
      obtain ⟨c, hc⟩ : ∃ c : Nat, at_ (sealT x0 x1) p = (c : Int) := ⟨(at_ (sealT x0 x1) p).toNat, by omega⟩
      have := bXor8 (x := c) (y := 0) (by omega) (by omega)
      rw [Nat.xor_zero, show ((0 : Nat) : Int) = 0 from rfl, ← hc] at this
      rw [e, this]; exact set_at t0 t1
    generalize (sealT x0 x1).set p.toNat (bXor .u8 (at_ (sealT x0 x1) p) x3) = b at ws hz
    rw [open_eq (by omega) w0 ws, Option.bind_some, openref_eq (by omega) w0 ws, Option.bind_some]
    simp only
    have hbody : (openF x0 x1.Dir b).1.Body.length ≤ 100000 := by
      by_cases e : (openF x0 x1.Dir b).2 = .nil
      · have hp : openF x0 x1.Dir b = ((openF x0 x1.Dir b).1, .nil) := by rw [← e]
        have := (seal_open ws hp).2.2; omega
      · rcases (open_err x0 b x1.Dir).1 with h | h
        · exact absurd h e
        · rw [h]; unfold zF; simp
    rw [same19_eq hbody, Option.bind_some, beq_self_eq_true, cond_true, (open_err x0 b x1.Dir).2, Option.bind_some, if_pos rfl]
    by_cases z : x3 = 0
    · rw [if_pos z, hz z, (open_seal w0 w1 o (by omega)).1, if_pos rfl]
    · rw [if_neg z]
  · rw [if_neg o, if_neg (by omega), Option.bind_some]
theorem turn_all : ∀ (k : Nat) (l : List Int) (i : Int), 0 ≤ i → i ≤ (l.length : Int) → (l.length : Int) - i < (k : Int) → l.length ≤ 100000 → shutterlaw19_FrameKeeps.l1.m KK k l i = some () := by
  intro k
  induction k with
  | zero => intro l i _ _ h; omega
  | succ k ih =>
    intro l i h0 h1 hk hl
    rw [shutterlaw19_FrameKeeps.l1.m]
    by_cases h3 : i < (l.length : Int)
    · rw [if_pos h3, if_pos h0, w64_id (by omega) (by omega), ih _ _ (by omega) (by rw [List.length_set]; omega) (by rw [List.length_set]; omega) (by rw [List.length_set]; omega)]
    · rw [if_neg h3]
theorem FrameKeeps_true (x0 : (List Int)) (x1 : (List Int)) (w0 : ∀ y ∈ x0, Wf .u8 y) (_ : x0.length ≤ maxLen) (w1 : ∀ y ∈ x1, Wf .u8 y) (_ : x1.length ≤ maxLen) : shutterlaw19_FrameKeeps.m KK x0 x1 = some true := by
  unfold shutterlaw19_FrameKeeps.m
  rw [awake19, Option.bind_some, cond_true]
  by_cases h0 : (x0.length : Int) > 200
  · rw [if_pos h0, Option.bind_some]
  rw [if_neg h0]
  by_cases h1 : (x1.length : Int) > 400
  · rw [if_pos h1, Option.bind_some]
  have o : okF ⟨1, 7, x1⟩ := ⟨.inr rfl, show (1 : Int) ≤ 7 by decide, show (7 : Int) ≤ 4611686018427387904 by decide⟩
  have so := sealT_ok (f := ⟨1, 7, x1⟩) w0 w1
  have sl : (sealT x0 ⟨1, 7, x1⟩).length = 26 + x1.length := so.1
  have os := (open_seal (f := ⟨1, 7, x1⟩) w0 w1 o (show x1.length ≤ 486 by omega)).1
  have os' : openF x0 1 (sealT x0 ⟨1, 7, x1⟩) = (⟨1, 7, x1⟩, .nil) := os
  rw [if_neg h1, app_ok (by simp; omega), Option.bind_some, List.nil_append, seal_eq (by omega) w0 w1, Option.bind_some]
  simp only [letJ]
  have e : sealF x0 ⟨1, 7, x1⟩ = (sealT x0 ⟨1, 7, x1⟩, .nil) := by
    unfold sealF; rw [if_pos o, if_neg (show ¬ x1.length > 486 by omega)]
  rw [e, same_eq (by omega), Option.bind_some, beq_self_eq_true, cond_true, open_eq (by omega) w0 so.2, Option.bind_some, os']
  simp only
  rw [turn_all KK _ 0 (by omega) (by omega) (by unfold KK; omega) (by omega), Option.bind_some, if_pos trivial, if_pos trivial, cond_true, same_eq (by omega), Option.bind_some, beq_self_eq_true]
end Go.Proofs.YtgljelhakcallaaDoor.Sx
