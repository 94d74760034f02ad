/- Package frame: what is sealed is opened, and back again. -/
import Derived.Test.YtpkcckaaocannaaDoorFD
namespace Go.Proofs.YtpkcckaaocannaaDoor.Sx
open Go
set_option maxRecDepth 100000

theorem sealT_tx {k : List Int} {f : api_Frame} (wk : ∀ y ∈ k, Wf .u8 y) (wb : ∀ y ∈ f.Body, Wf .u8 y) : tx (sealT k f) = txt f ∧ tg (sealT k f) = sub (hmac k (txt f)) 0 16 := by
  have l := (sealT_ok wk wb).1
  have e : (sealT k f).length - 16 = (txt f).length := by rw [txt_len]; omega
  unfold tx tg
  rw [e]; unfold sealT
  exact ⟨List.take_left' rfl, List.drop_left' rfl⟩
theorem sealT_at {k : List Int} {f : api_Frame} (o : okF f) : at_ (sealT k f) 0 = 1 ∧ at_ (sealT k f) 1 = f.Dir := by
  refine ⟨rfl, ?_⟩
  have : at_ (sealT k f) 1 = IntKind.u8.wrap f.Dir := rfl
  rw [this, wrap_u8]; rcases o.1 with d | d <;> rw [d] <;> rfl
theorem sealT_seq {k : List Int} {f : api_Frame} (o : okF f) : seqOf (sealT k f) = f.Seq := by
  have e : sub (sealT k f) 2 10 = sbs f.Seq 8 0 := by
    unfold sub sealT txt
    rw [show (10 : Int).toNat - (2 : Int).toNat = 8 from rfl, show (2 : Int).toNat = 2 from rfl, List.cons_append, List.cons_append, List.drop_succ_cons, List.drop_succ_cons, List.drop_zero, List.append_assoc]
    exact List.take_left' (sbs_len _ _ _)
  unfold seqOf
  rw [e]; exact fval_sbs (by have := o.2.1; omega) o.2.2
theorem txt_body (f : api_Frame) : (txt f).drop 10 = f.Body := by
  unfold txt
  rw [List.drop_succ_cons, List.drop_succ_cons]
  exact List.drop_left' (sbs_len _ _ _)
theorem open_seal {k : List Int} {f : api_Frame} (wk : ∀ y ∈ k, Wf .u8 y) (wb : ∀ y ∈ f.Body, Wf .u8 y) (o : okF f) (hb : f.Body.length ≤ 486) :
    openF k f.Dir (sealT k f) = (f, .nil) ∧ openF k (1 - f.Dir) (sealT k f) = (zF, .no 13) := by
  have l := (sealT_ok wk wb).1
  have a := sealT_at (k := k) o
  have s := sealT_tx wk wb
  have q := sealT_seq (k := k) o
  have tb := txt_body f
  constructor
  · unfold openF
    rw [if_neg (by omega), if_neg (by omega), s.1, s.2, if_pos rfl, if_pos a, q, if_pos ⟨⟨o.2.1, o.2.2⟩, o.1⟩, tb]
  · unfold openF
    rw [if_neg (by omega), if_neg (by omega), s.1, s.2, if_pos rfl, if_neg (fun h => by rw [a.2] at h; rcases o.1 with d | d <;> rw [d] at h <;> exact absurd h.2 (by decide))]
theorem list8' {h : List Int} (k : h.length = 8) : ∃ a b c d e f g i, h = [a, b, c, d, e, f, g, i] := by
  rcases h with _ | ⟨a, _ | ⟨b, _ | ⟨c, _ | ⟨d, _ | ⟨e, _ | ⟨f, _ | ⟨g, _ | ⟨i, _ | ⟨j, t⟩⟩⟩⟩⟩⟩⟩⟩⟩ <;> simp at k
  exact ⟨a, b, c, d, e, f, g, i, rfl⟩
theorem sbs_fval {l : List Int} (hl : l.length = 8) (wl : ∀ y ∈ l, Wf .u8 y) : sbs (fval l 0) 8 0 = l := by
  obtain ⟨a, b, c, d, e, f, g, i, rfl⟩ := list8' hl
  have w := fun y h => b_u8 (wl y h)
  simp only [List.mem_cons, List.not_mem_nil, or_false, forall_eq_or_imp, forall_eq] at w
  obtain ⟨w1, w2, w3, w4, w5, w6, w7, w8⟩ := w
  obtain ⟨a, rfl⟩ := Int.eq_ofNat_of_zero_le w1.1
  obtain ⟨b, rfl⟩ := Int.eq_ofNat_of_zero_le w2.1
  obtain ⟨c, rfl⟩ := Int.eq_ofNat_of_zero_le w3.1
  obtain ⟨d, rfl⟩ := Int.eq_ofNat_of_zero_le w4.1
  obtain ⟨e, rfl⟩ := Int.eq_ofNat_of_zero_le w5.1
  obtain ⟨f, rfl⟩ := Int.eq_ofNat_of_zero_le w6.1
  obtain ⟨g, rfl⟩ := Int.eq_ofNat_of_zero_le w7.1
  obtain ⟨i, rfl⟩ := Int.eq_ofNat_of_zero_le w8.1
  have hN : fval [(a : Int), (b : Int), (c : Int), (d : Int), (e : Int), (f : Int), (g : Int), (i : Int)] 0 = (((((((((a * 256 + b) * 256 + c) * 256 + d) * 256 + e) * 256 + f) * 256 + g) * 256 + i : Nat)) : Int) := by
    simp only [fval]; omega
  rw [hN]
  generalize hq : (((((((a * 256 + b) * 256 + c) * 256 + d) * 256 + e) * 256 + f) * 256 + g) * 256 + i : Nat) = q
  simp only [sbs]
  rw [sb_nat (n := 56) 0 (by omega) (by omega), sb_nat (n := 48) (0 + 1) (by omega) (by omega), sb_nat (n := 40) (0 + 1 + 1) (by omega) (by omega), sb_nat (n := 32) (0 + 1 + 1 + 1) (by omega) (by omega), sb_nat (n := 24) (0 + 1 + 1 + 1 + 1) (by omega) (by omega),
    sb_nat (n := 16) (0 + 1 + 1 + 1 + 1 + 1) (by omega) (by omega), sb_nat (n := 8) (0 + 1 + 1 + 1 + 1 + 1 + 1) (by omega) (by omega), sb_nat (n := 0) (0 + 1 + 1 + 1 + 1 + 1 + 1 + 1) (by omega) (by omega)]
  rw [div8 q 48, div8 q 40, div8 q 32, div8 q 24, div8 q 16, div8 q 8, div8 q 0, Nat.pow_zero, Nat.div_one]
  have q0 : q % 256 = i ∧ q / 256 = ((((((a * 256 + b) * 256 + c) * 256 + d) * 256 + e) * 256 + f) * 256 + g) := by omega
  rw [q0.1, q0.2]
  clear hq q0 hN
  have q1 : ((((((a * 256 + b) * 256 + c) * 256 + d) * 256 + e) * 256 + f) * 256 + g) % 256 = g ∧ ((((((a * 256 + b) * 256 + c) * 256 + d) * 256 + e) * 256 + f) * 256 + g) / 256 = (((((a * 256 + b) * 256 + c) * 256 + d) * 256 + e) * 256 + f) := by omega
  have q2 : (((((a * 256 + b) * 256 + c) * 256 + d) * 256 + e) * 256 + f) % 256 = f ∧ (((((a * 256 + b) * 256 + c) * 256 + d) * 256 + e) * 256 + f) / 256 = ((((a * 256 + b) * 256 + c) * 256 + d) * 256 + e) := by omega
  have q3 : ((((a * 256 + b) * 256 + c) * 256 + d) * 256 + e) % 256 = e ∧ ((((a * 256 + b) * 256 + c) * 256 + d) * 256 + e) / 256 = (((a * 256 + b) * 256 + c) * 256 + d) := by omega
  have q4 : (((a * 256 + b) * 256 + c) * 256 + d) % 256 = d ∧ (((a * 256 + b) * 256 + c) * 256 + d) / 256 = ((a * 256 + b) * 256 + c) := by omega
  have q5 : ((a * 256 + b) * 256 + c) % 256 = c ∧ ((a * 256 + b) * 256 + c) / 256 = (a * 256 + b) := by omega
  have q6 : (a * 256 + b) % 256 = b ∧ (a * 256 + b) / 256 = a := by omega
  have q7 : a % 256 = a := by omega
  rw [q1.1, q1.2, q2.1, q2.2, q3.1, q3.2, q4.1, q4.2, q5.1, q5.2, q6.1, q6.2, q7]
theorem split10 {l : List Int} (h : 10 ≤ l.length) : at_ l 0 :: at_ l 1 :: (sub l 2 10 ++ l.drop 10) = l := by
  have e0 := drop_at (l := l) (i := 0) (by omega) (by omega)
  have e1 := drop_at (l := l) (i := 1) (by omega) (by omega)
  have e2 : sub l 2 10 ++ l.drop 10 = l.drop 2 := by
    unfold sub
    have := List.take_append_drop 8 (l.drop 2)
    rw [List.drop_drop] at this
    exact this
  rw [e2, show l.drop 2 = l.drop ((1 : Int) + 1).toNat from rfl, ← e1, show l.drop (1 : Int).toNat = l.drop ((0 : Int) + 1).toNat from rfl, ← e0]; rfl
theorem seal_open {k b : List Int} {dir : Int} {g : api_Frame} (wb : ∀ y ∈ b, Wf .u8 y) (h : openF k dir b = (g, .nil)) : sealF k g = (b, .nil) ∧ (∀ y ∈ g.Body, Wf .u8 y) ∧ g.Body.length ≤ 486 := by
  unfold openF at h
  by_cases h1 : b.length < 26
  · rw [if_pos h1] at h; cases h
  rw [if_neg h1] at h
  by_cases h2 : b.length > 512
  · rw [if_pos h2] at h; cases h
  rw [if_neg h2] at h
  by_cases h3 : sub (hmac k (tx b)) 0 16 = tg b
  · rw [if_pos h3] at h
    by_cases c : at_ b 0 = 1 ∧ at_ b 1 = dir
    · rw [if_pos c] at h
      by_cases o : (1 ≤ seqOf b ∧ seqOf b ≤ 4611686018427387904) ∧ (dir = 0 ∨ dir = 1)
      · rw [if_pos o] at h
        obtain rfl := (Prod.mk.inj h).1
        have tl : (tx b).length = b.length - 16 := by unfold tx; rw [List.length_take]; omega
        have s8 : (sub b 2 10).length = 8 := by rw [sub_length (by omega)]; rfl
        have a0 : at_ (tx b) 0 = at_ b 0 := at_take (by omega) (by omega)
        have a1 : at_ (tx b) 1 = at_ b 1 := at_take (by omega) (by omega)
        have e : txt ⟨dir, seqOf b, (tx b).drop 10⟩ = tx b := by
          unfold txt
          have hd : IntKind.u8.wrap dir = dir := by rw [wrap_u8]; rcases o.2 with d | d <;> rw [d] <;> rfl
          have hs : sbs (seqOf b) 8 0 = sub (tx b) 2 10 := by unfold seqOf; rw [sbs_fval s8 (sub_ok wb _ _), sub_tx (by omega)]
          simp only
          rw [hd, hs, ← c.2, ← a1, show (1 : Int) = at_ (tx b) 0 from (a0.trans c.1).symm, show at_ (tx b) (at_ (tx b) 0) = at_ (tx b) 1 by rw [a0, c.1]]
          exact split10 (by omega)
        have hb : ((tx b).drop 10).length ≤ 486 := by rw [List.length_drop]; omega
        refine ⟨?_, fun y hy => wb y (List.mem_of_mem_take (List.mem_of_mem_drop hy)), hb⟩
        unfold sealF sealT
        rw [if_pos (show okF ⟨dir, seqOf b, (tx b).drop 10⟩ from ⟨o.2, o.1.1, o.1.2⟩), if_neg (show ¬ ((tx b).drop 10).length > 486 by omega), e, h3]
        unfold tx tg; rw [List.take_append_drop]
      · rw [if_neg o] at h; cases h
    · rw [if_neg c] at h; cases h
  · rw [if_neg h3] at h; cases h
theorem open_err (k b : List Int) (dir : Int) : ((openF k dir b).2 = .nil ∨ openF k dir b = (zF, (openF k dir b).2)) ∧ api_Code.m (openF k dir b).2 = some (errNo (openF k dir b).2) := by
  unfold openF
  split
  · exact ⟨.inr rfl, rfl⟩
  split
  · exact ⟨.inr rfl, rfl⟩
  split
  · split
    · split
      · exact ⟨.inl rfl, rfl⟩
      · exact ⟨.inr rfl, rfl⟩
    · exact ⟨.inr rfl, rfl⟩
  · exact ⟨.inr rfl, rfl⟩
theorem set_at {l : List Int} {p : Int} (h0 : 0 ≤ p) (h1 : p < (l.length : Int)) : l.set p.toNat (at_ l p) = l := by
  have : p.toNat < l.length := by omega
  unfold at_
  rw [List.getD_eq_getElem?_getD, List.getElem?_eq_getElem this, Option.getD_some, List.set_getElem_self]
end Go.Proofs.YtpkcckaaocannaaDoor.Sx

