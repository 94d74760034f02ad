/- Plain facts on package frame: what Open answers. -/
import Derived.Test.YtpkcckaaocannaaDoorFC
namespace Go.Proofs.YtpkcckaaocannaaDoor.Sx
open Go
set_option maxRecDepth 100000

def zF : api_Frame := ⟨0, 0, []⟩
def tx (b : List Int) : List Int := b.take (b.length - 16)
def tg (b : List Int) : List Int := b.drop (b.length - 16)
def seqOf (b : List Int) : Int := fval (sub b 2 10) 0
def openF (k : List Int) (dir : Int) (b : List Int) : api_Frame × GoErr :=
  if b.length < 26 then (zF, .no 2) else if b.length > 512 then (zF, .no 6) else
  if sub (hmac k (tx b)) 0 16 = tg b then
    (if at_ b 0 = 1 ∧ at_ b 1 = dir then
      (if (1 ≤ seqOf b ∧ seqOf b ≤ 4611686018427387904) ∧ (dir = 0 ∨ dir = 1) then (⟨dir, seqOf b, (tx b).drop 10⟩, .nil) else (zF, .no 1))
    else (zF, .no 13))
  else (zF, .no 11)

theorem or_byte {v c : Nat} (hc : c < 256) : v * 256 ||| c = v * 256 + c := by
  have := Nat.two_pow_add_eq_or_of_lt (i := 8) (b := c) hc v
  rw [Nat.mul_comm] at this
  exact this.symm
theorem step64 {v c : Nat} (hv : v < 72057594037927936) (hc : c < 256) : bOr .u64 (shl .u64 (v : Int) 8) (IntKind.u64.wrap (c : Int)) = ((v * 256 + c : Nat) : Int) := by
  have e : shl .u64 (v : Int) 8 = ((v * 256 : Nat) : Int) := by
    unfold shl
    rw [show (2 : Int) ^ (min (8 : Int).toNat IntKind.u64.bits) = 256 from rfl, wrap_u64]; omega
  have e2 : IntKind.u64.wrap (c : Int) = (c : Int) := by rw [wrap_u64]; omega
  rw [e, e2]
  unfold bOr
  have h64 : (2 : Nat) ^ IntKind.u64.bits = 18446744073709551616 := by decide
  rw [BitVec.toNat_or, toNat_ofInt (by rw [h64]; omega), toNat_ofInt (by rw [h64]; omega), or_byte hc, wrap_u64]; omega
theorem fval_cons {l : List Int} {i : Nat} {v : Int} (h : i < l.length) : fval (l.drop i) v = fval (l.drop (i + 1)) (v * 256 + at_ l i) := by
  have := drop_at (l := l) (i := (i : Int)) (by omega) (by omega)
  rw [show ((i : Int)).toNat = i by omega, show ((i : Int) + 1).toNat = i + 1 by omega] at this
  rw [this]; rfl
theorem pow_up {i : Nat} (h : i ≤ 7) : 256 ^ i ≤ 72057594037927936 := by
  have := Nat.pow_le_pow_right (n := 256) (by omega) h
  exact Nat.le_trans this (by decide)

theorem open_loop {b : List Int} (wb : ∀ y ∈ b, Wf .u8 y) (hs : (sub (sub b 0 (w64 ((b.length : Int) - 16))) 2 10).length = 8) : ∀ (k v i : Nat), i ≤ 8 → 8 - i < k → v < 256 ^ i →
    frame_Open.l1.m KK b k (v : Int) (i : Int) = some (fval ((sub (sub b 0 (w64 ((b.length : Int) - 16))) 2 10).drop i) v) := by
  generalize hL : sub (sub b 0 (w64 ((b.length : Int) - 16))) 2 10 = l at hs
  have wl : ∀ y ∈ l, Wf .u8 y := by rw [← hL]; exact sub_ok (sub_ok wb _ _) _ _
  intro k
  induction k with
  | zero => intro v i _ h; omega
  | succ k ih =>
    intro v i h0 h1 hv
    rw [frame_Open.l1.m, hL]
    by_cases h3 : i < 8
    · have bb := b_u8 (wl _ (at_mem (l := l) (i := (i : Int)) (by omega) (by omega)))
      obtain ⟨c, hc⟩ : ∃ c : Nat, at_ l (i : Int) = (c : Int) := ⟨(at_ l (i : Int)).toNat, by omega⟩
      have hp := pow_up (i := i) (by omega)
      have hp1 : 256 ^ (i + 1) = 256 ^ i * 256 := Nat.pow_succ ..
      rw [if_pos (by omega), if_pos (by omega), fval_cons (by omega), hc, step64 (by omega) (by omega), w64_id (n := (i : Int) + 1) (by omega) (by omega)]
      have := ih (v * 256 + c) (i + 1) (by omega) (by omega) (by omega)
      rw [show (((i + 1 : Nat)) : Int) = (i : Int) + 1 by omega] at this
      rw [this]; congr 2
    · rw [if_neg (by omega), List.drop_eq_nil_of_le (by omega)]; rfl
theorem sub_tx {b : List Int} (h : 26 ≤ b.length) : sub (tx b) 2 10 = sub b 2 10 := by
  unfold sub tx
  rw [show (10 : Int).toNat - (2 : Int).toNat = 8 from rfl, show (2 : Int).toNat = 2 from rfl, List.drop_take, List.take_take, Nat.min_eq_left (by omega)]
theorem sub_tail {l : List Int} {n : Nat} : sub l (n : Int) (l.length : Int) = l.drop n := by
  unfold sub; simp only [Int.toNat_natCast]
  rw [List.take_of_length_le (by rw [List.length_drop]; exact Nat.le_refl _)]
theorem open_eq {k b : List Int} {dir : Int} (hk : k.length ≤ 1000) (wk : ∀ y ∈ k, Wf .u8 y) (wb : ∀ y ∈ b, Wf .u8 y) : frame_Open.m KK k dir b = some (openF k dir b) := by
  have key := open_loop (b := b) wb
  unfold frame_Open.m openF
  simp only [letJ]
  by_cases h1 : b.length < 26
  · rw [if_pos (by omega), cond_true, if_pos h1]; rfl
  rw [if_neg (show ¬ (b.length : Int) < 26 by omega), cond_false, if_neg h1]
  by_cases h2 : b.length > 512
  · rw [if_pos (by omega), if_pos h2]; rfl
  have n16 : w64 ((b.length : Int) - 16) = ((b.length - 16 : Nat) : Int) := by rw [w64_id (by omega) (by omega)]; omega
  have wt : ∀ y ∈ tx b, Wf .u8 y := fun y hy => wb y (List.mem_of_mem_take hy)
  have wg : ∀ y ∈ tg b, Wf .u8 y := fun y hy => wb y (List.mem_of_mem_drop hy)
  have tl : (tx b).length = b.length - 16 := by unfold tx; rw [List.length_take]; omega
  have fl : [tx b].flatten = tx b := by simp
  have e0 : sub b 0 ((b.length - 16 : Nat) : Int) = tx b := sub_take (by omega)
  have e1 : sub b ((b.length - 16 : Nat) : Int) (b.length : Int) = tg b := sub_drop (by omega)
  have s8 : (sub b 2 10).length = 8 := by rw [sub_length (by omega)]; rfl
  have a0 : at_ (tx b) 0 = at_ b 0 := at_take (by omega) (by omega)
  have a1 : at_ (tx b) 1 = at_ b 1 := at_take (by omega) (by omega)
  have b1 := b_u8 (wb _ (at_mem (l := b) (i := 1) (by omega) (by omega)))
  rw [n16, e0, sub_tx (by omega)] at key
  have lp := key s8 KK 0 0 (by omega) (by unfold KK; omega) (by decide)
  rw [List.drop_zero] at lp
  have lp' : frame_Open.l1.m KK b KK 0 0 = some (seqOf b) := lp
  rw [if_neg (by omega), if_neg h2, n16, if_pos (by omega), if_pos (by omega), e0, e1, tag_eq (by omega) wk (by simp) (by rw [fl]; omega) (by rw [fl]; exact wt), Option.bind_some, fl,
    equal_eq (by rw [tag_len wk wt]; omega) (sub_ok (hmac_ok wk wt).2 _ _) wg, Option.bind_some]
  by_cases h3 : sub (hmac k (tx b)) 0 16 = tg b
  · rw [if_pos h3, h3, beq_self_eq_true, cond_true, if_pos (by omega), a0, a1]
    by_cases c0 : at_ b 0 = 1
    · rw [if_pos c0, if_pos (by omega), w64_id (by omega) (by omega)]
      by_cases c1 : at_ b 1 = dir
      · rw [if_pos c1, if_pos (by omega), lp', Option.bind_some, if_pos (show at_ b 0 = 1 ∧ at_ b 1 = dir from ⟨c0, c1⟩)]
        by_cases q1 : seqOf b < 1
        · rw [if_pos q1, if_neg (fun h => by have := h.1.1; omega)]; rfl
        · rw [if_neg q1]
          by_cases q2 : seqOf b > 4611686018427387904
          · rw [if_pos q2, if_neg (fun h => by have := h.1.2; omega)]; rfl
          · rw [if_neg q2]
            unfold frame_sided.m
            by_cases d0 : dir = 0
            · rw [if_pos d0, Option.bind_some, cond_true, if_pos ⟨⟨by omega, by omega⟩, .inl d0⟩]
              unfold slices_Clone_bytes.m
              have st : sub (tx b) 10 ((tx b).length : Int) = (tx b).drop 10 := sub_tail (n := 10)
              rw [st, app_ok (by simp; omega), Option.bind_some, Option.bind_some, w64_id (by omega) (by omega)]; rfl
            · rw [if_neg d0]
              by_cases d1 : dir = 1
              · rw [d1, show ((1 : Int) == 1) = true from rfl, Option.bind_some, cond_true, if_pos ⟨⟨by omega, by omega⟩, .inr rfl⟩]
                unfold slices_Clone_bytes.m
                have st : sub (tx b) 10 ((tx b).length : Int) = (tx b).drop 10 := sub_tail (n := 10)
                rw [st, app_ok (by simp; omega), Option.bind_some, Option.bind_some, w64_id (by omega) (by omega)]; rfl
              · rw [beq_eq_false_iff_ne.2 d1, Option.bind_some, cond_false, if_neg (fun h => h.2.elim d0 d1)]; rfl
      · rw [if_neg c1, if_neg (fun h => c1 h.2)]; rfl
    · rw [if_neg c0, if_neg (fun h => c0 h.1)]; rfl
  · rw [if_neg h3, beq_eq_false_iff_ne.2 h3, cond_false]; rfl
def errNo : GoErr → Int
  | .nil => 0
  | .no n => n
  | _ => -1
theorem fval_ge {a : Int} : ∀ {l : List Int} {v : Int}, (∀ y ∈ l, Wf .u8 y) → a ≤ v → a * 256 ^ l.length ≤ fval l v
  | [], v, _, h => by simp [fval]; exact h
  | c :: l, v, w, h => by
    have hc := b_u8 (w c (List.mem_cons_self ..))
    have := fval_ge (a := a * 256) (l := l) (v := v * 256 + c) (fun y hy => w y (List.mem_cons_of_mem _ hy)) (by omega)
    rw [List.length_cons, Int.pow_succ, fval]
    rw [show a * (256 ^ l.length * 256) = a * 256 * 256 ^ l.length by rw [Int.mul_comm (256 ^ l.length) 256, Int.mul_assoc]]
    exact this
theorem seqOf_cons {b : List Int} (h : 10 ≤ b.length) : seqOf b = fval (sub b 3 10) (at_ b 2) := by
  unfold seqOf
  have e : sub b 2 10 = at_ b 2 :: sub b 3 10 := by
    unfold sub
    rw [show (10 : Int).toNat - (2 : Int).toNat = 7 + 1 from rfl, show (10 : Int).toNat - (3 : Int).toNat = 7 from rfl, drop_at (i := 2) (by omega) (by omega), List.take_succ_cons]; rfl
  rw [e, fval, Int.zero_mul, Int.zero_add]
end Go.Proofs.YtpkcckaaocannaaDoor.Sx

