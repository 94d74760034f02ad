/- Plain facts on package hash: parts of a text one behind the other; the document's sum. -/
import Derived.Test.YtpkcckaaocannaaDoorPU
namespace Go.Proofs.YtpkcckaaocannaaDoor.Sx
open Go
set_option maxRecDepth 100000

theorem add_prog (k : Nat) (h0 h1 h2 h3 h4 h5 h6 h7 s0 s1 s2 s3 s4 s5 s6 s7 n : Int) : hash_Sum_block.l2.m KK [s0, s1, s2, s3, s4, s5, s6, s7] (k + 9) 0 h0 h1 h2 h3 h4 h5 h6 h7 n =
    some (IntKind.u32.wrap (h0 + s0), IntKind.u32.wrap (h1 + s1), IntKind.u32.wrap (h2 + s2), IntKind.u32.wrap (h3 + s3), IntKind.u32.wrap (h4 + s4), IntKind.u32.wrap (h5 + s5), IntKind.u32.wrap (h6 + s6), IntKind.u32.wrap (h7 + s7), n) := by kernel_rfl
theorem add_ref (k : Nat) (h0 h1 h2 h3 h4 h5 h6 h7 s0 s1 s2 s3 s4 s5 s6 s7 : Int) : shutterref01_Block.l3.m KK [h0, h1, h2, h3, h4, h5, h6, h7] (k + 9) 0 [s0, s1, s2, s3, s4, s5, s6, s7] =
    some [Int.tmod (w64 (s0 + h0)) 4294967296, Int.tmod (w64 (s1 + h1)) 4294967296, Int.tmod (w64 (s2 + h2)) 4294967296, Int.tmod (w64 (s3 + h3)) 4294967296, Int.tmod (w64 (s4 + h4)) 4294967296, Int.tmod (w64 (s5 + h5)) 4294967296, Int.tmod (w64 (s6 + h6)) 4294967296, Int.tmod (w64 (s7 + h7)) 4294967296] := by kernel_rfl

theorem block_lock {h p : List Int} (hh : h.length = 8) (wh : ∀ y ∈ h, Wd y) (hp : p.length = 64) (wp : ∀ y ∈ p, Wf .u8 y) :
    ∃ c, shutterref01_Block.m KK h p = some c ∧ (∀ rest n, hash_Sum_block.m KK ⟨h, rest, n⟩ p = some ⟨c, rest, n⟩) ∧ c.length = 8 ∧ ∀ y ∈ c, Wd y := by
  obtain ⟨w, e1, e2, hw, ww⟩ := sched_lock hp wp KK 0 (List.replicate 64 0) (by omega) (by omega) (by unfold KK; omega) (List.length_replicate ..) (fun j h0 h1 => by omega)
  obtain ⟨s, f1, f2, hs, ws⟩ := rounds_lock hw ww KK 0 h (by omega) (by omega) (by unfold KK; omega) hh wh
  obtain ⟨h0, h1, h2, h3, h4, h5, h6, h7, rfl⟩ := list8 hh
  obtain ⟨s0, s1, s2, s3, s4, s5, s6, s7, rfl⟩ := list8 hs
  simp only [List.mem_cons, List.not_mem_nil, or_false, forall_eq_or_imp, forall_eq] at wh ws
  obtain ⟨a0, a1, a2, a3, a4, a5, a6, a7⟩ := wh
  obtain ⟨b0, b1, b2, b3, b4, b5, b6, b7⟩ := ws
  have e2' : shutterref01_Block.l1.m KK p KK [] 0 = some w := e2
  refine ⟨[IntKind.u32.wrap (h0 + s0), IntKind.u32.wrap (h1 + s1), IntKind.u32.wrap (h2 + s2), IntKind.u32.wrap (h3 + s3), IntKind.u32.wrap (h4 + s4), IntKind.u32.wrap (h5 + s5), IntKind.u32.wrap (h6 + s6), IntKind.u32.wrap (h7 + s7)], ?_, fun rest n => ?_, rfl, ?_⟩
  · unfold shutterref01_Block.m
    rw [e2', Option.bind_some, f2, Option.bind_some]
    have := add_ref 1048567 h0 h1 h2 h3 h4 h5 h6 h7 s0 s1 s2 s3 s4 s5 s6 s7
    rw [show 1048567 + 9 = KK from rfl] at this
    rw [this, Option.bind_some, sum2 b0 a0, sum2 b1 a1, sum2 b2 a2, sum2 b3 a3, sum2 b4 a4, sum2 b5 a5, sum2 b6 a6, sum2 b7 a7, Int.add_comm s0, Int.add_comm s1, Int.add_comm s2, Int.add_comm s3, Int.add_comm s4, Int.add_comm s5, Int.add_comm s6, Int.add_comm s7]
  · unfold hash_Sum_block.m hash_words.m
    rw [e1, Option.bind_some, Option.bind_some, f1, Option.bind_some]
    have := add_prog 1048567 h0 h1 h2 h3 h4 h5 h6 h7 s0 s1 s2 s3 s4 s5 s6 s7 n
    rw [show 1048567 + 9 = KK from rfl] at this
    have t : hash_Sum_block.l2.m KK [s0, s1, s2, s3, s4, s5, s6, s7] KK 0 (at_ [h0, h1, h2, h3, h4, h5, h6, h7] 0) (at_ [h0, h1, h2, h3, h4, h5, h6, h7] 1) (at_ [h0, h1, h2, h3, h4, h5, h6, h7] 2) (at_ [h0, h1, h2, h3, h4, h5, h6, h7] 3) (at_ [h0, h1, h2, h3, h4, h5, h6, h7] 4) (at_ [h0, h1, h2, h3, h4, h5, h6, h7] 5) (at_ [h0, h1, h2, h3, h4, h5, h6, h7] 6) (at_ [h0, h1, h2, h3, h4, h5, h6, h7] 7) n = _ := this
    rw [t, Option.bind_some]
  · simp only [List.mem_cons, List.not_mem_nil, or_false, forall_eq_or_imp, forall_eq]
    exact ⟨wd_wrap _, wd_wrap _, wd_wrap _, wd_wrap _, wd_wrap _, wd_wrap _, wd_wrap _, wd_wrap _⟩

/-- A block told into a state. -/
def cmp (h p : List Int) : List Int := (shutterref01_Block.m KK h p).getD []
structure St8 (h : List Int) : Prop where
  len : h.length = 8
  wd : ∀ y ∈ h, Wd y
theorem cmp_eq {h p : List Int} (k : St8 h) (hp : p.length = 64) (wp : ∀ y ∈ p, Wf .u8 y) : shutterref01_Block.m KK h p = some (cmp h p) ∧ (∀ rest n, hash_Sum_block.m KK ⟨h, rest, n⟩ p = some ⟨cmp h p, rest, n⟩) ∧ St8 (cmp h p) := by
  obtain ⟨c, e1, e2, e3, e4⟩ := block_lock k.len k.wd hp wp
  unfold cmp
  rw [e1]
  exact ⟨rfl, e2, e3, e4⟩

/-- All whole blocks told, and what is left. -/
def foldB : Nat → List Int → List Int → List Int × List Int
  | 0, h, l => (h, l)
  | k + 1, h, l => if 64 ≤ l.length then foldB k (cmp h (l.take 64)) (l.drop 64) else (h, l)
theorem foldB_fuel : ∀ (k m : Nat) (h l : List Int), l.length < 64 * k + 64 → k ≤ m → foldB m h l = foldB k h l := by
  intro k
  induction k with
  | zero =>
    intro m h l hl _
    cases m with
    | zero => rfl
    | succ m => unfold foldB; rw [if_neg (by omega)]
  | succ k ih =>
    intro m h l hl hm
    obtain ⟨m, rfl⟩ : ∃ m', m = m' + 1 := ⟨m - 1, by omega⟩
    unfold foldB
    split
    · exact ih m _ _ (by rw [List.length_drop]; omega) (by omega)
    · rfl
def FB (h l : List Int) : List Int × List Int := foldB l.length h l
theorem FB_eq (h l : List Int) : FB h l = if 64 ≤ l.length then FB (cmp h (l.take 64)) (l.drop 64) else (h, l) := by
  unfold FB
  cases hl : l.length with
  | zero => unfold foldB; rw [if_neg (by omega)]
  | succ n =>
    conv => lhs; unfold foldB
    rw [hl]
    split
    · rw [foldB_fuel (l.drop 64).length n _ _ (by omega) (by rw [List.length_drop]; omega)]
    · rfl
theorem FB_app : ∀ (n : Nat) (h a b : List Int), a.length ≤ n → FB h (a ++ b) = FB (FB h a).1 ((FB h a).2 ++ b) := by
  intro n
  induction n with
  | zero =>
    intro h a b ha
    have : a = [] := List.eq_nil_of_length_eq_zero (by omega)
    subst this
    rw [FB_eq h []]; rfl
  | succ n ih =>
    intro h a b ha
    by_cases h64 : 64 ≤ a.length
    · rw [FB_eq h a, if_pos h64, FB_eq h (a ++ b), if_pos (by rw [List.length_append]; omega), List.take_append_of_le_length h64, List.drop_append_of_le_length h64]
      exact ih _ _ _ (by rw [List.length_drop]; omega)
    · rw [FB_eq h a, if_neg h64]
theorem FB_st : ∀ (n : Nat) (h a : List Int), a.length ≤ n → St8 h → (∀ y ∈ a, Wf .u8 y) → St8 (FB h a).1 ∧ (∀ y ∈ (FB h a).2, Wf .u8 y) ∧ (FB h a).2.length = a.length % 64 := by
  intro n
  induction n with
  | zero =>
    intro h a ha k wa
    have : a = [] := List.eq_nil_of_length_eq_zero (by omega)
    subst this
    rw [FB_eq h []]; exact ⟨k, wa, rfl⟩
  | succ n ih =>
    intro h a ha k wa
    by_cases h64 : 64 ≤ a.length
    · rw [FB_eq h a, if_pos h64]
      have := ih (cmp h (a.take 64)) (a.drop 64) (by rw [List.length_drop]; omega) (cmp_eq k (by rw [List.length_take]; omega) (fun y hy => wa y (List.mem_of_mem_take hy))).2.2 (fun y hy => wa y (List.mem_of_mem_drop hy))
      refine ⟨this.1, this.2.1, ?_⟩
      rw [this.2.2, List.length_drop]; omega
    · rw [FB_eq h a, if_neg h64]
      exact ⟨k, wa, by simp only; omega⟩

theorem sub_take {l : List Int} {n : Nat} (h : n ≤ l.length) : sub l 0 (n : Int) = l.take n := by
  unfold sub; simp
theorem sub_drop {l : List Int} {n : Nat} (h : n ≤ l.length) : sub l (n : Int) (l.length : Int) = l.drop n := by
  unfold sub; simp only [Int.toNat_natCast]
  rw [List.take_of_length_le (by rw [List.length_drop]; exact Nat.le_refl _)]
theorem at8 {h : List Int} (k : h.length = 8) : [at_ h 0, at_ h 1, at_ h 2, at_ h 3, at_ h 4, at_ h 5, at_ h 6, at_ h 7] = h := by
  obtain ⟨a, b, c, d, e, f, g, i, rfl⟩ := list8 k; rfl
/-- A state as the loops hold it. -/
def T10 (h r : List Int) (n : Int) : Int × Int × Int × Int × Int × Int × Int × Int × List Int × Int := (at_ h 0, at_ h 1, at_ h 2, at_ h 3, at_ h 4, at_ h 5, at_ h 6, at_ h 7, r, n)
theorem addl2 : ∀ (k : Nat) (h r : List Int) (n : Int), r.length < k → r.length ≤ 1000000 → St8 h → (∀ y ∈ r, Wf .u8 y) →
    hash_Sum_Add.l2.m KK k (at_ h 0) (at_ h 1) (at_ h 2) (at_ h 3) (at_ h 4) (at_ h 5) (at_ h 6) (at_ h 7) r n = some (T10 (FB h r).1 (FB h r).2 n) := by
  intro k
  induction k with
  | zero => intro h r n hr; omega
  | succ k ih =>
    intro h r n hr hr2 kh wr
    rw [hash_Sum_Add.l2.m, at8 kh.len, FB_eq h r]
    by_cases h64 : 64 ≤ r.length
    · have e1 : sub r 0 64 = r.take 64 := sub_take (n := 64) h64
      have e2 : sub r 64 (r.length : Int) = r.drop 64 := sub_drop (n := 64) h64
      obtain ⟨_, c2, c3⟩ := cmp_eq kh (p := r.take 64) (by rw [List.length_take]; omega) (fun y hy => wr y (List.mem_of_mem_take hy))
      rw [if_pos (by omega), if_pos (by omega), e1, e2, c2, Option.bind_some, if_pos h64]
      exact ih _ _ _ (by rw [List.length_drop]; omega) (by rw [List.length_drop]; omega) c3 (fun y hy => wr y (List.mem_of_mem_drop hy))
    · rw [if_neg (by omega), if_neg h64]; rfl
end Go.Proofs.YtpkcckaaocannaaDoor.Sx
