/- The plain part of the laws of package 06: BytesTake, BytesSticks. -/
import Derived.Test.YtenlbpcfilmgpaaDoorP06a
namespace Go.Proofs.YtenlbpcfilmgpaaDoor.Sx
open Go

theorem take_sub {l : List Int} {i j : Int} (h0 : 0 ≤ i) (h1 : i ≤ j) : l.take i.toNat ++ sub l i j = l.take j.toNat := by
  unfold sub
  rw [← List.take_add]
  congr 1; omega
theorem app_take {l : List Int} (hl : l.length ≤ 100000) {i j : Int} (h0 : 0 ≤ i) (h1 : i ≤ j) : app (l.take i.toNat) (sub l i j) = some (l.take j.toNat) := by
  unfold app
  rw [take_sub h0 h1, if_pos]
  have := @sub_len l i j
  have : (l.take i.toNat).length ≤ l.length := by rw [List.length_take]; omega
  unfold Lim; omega

theorem take_in {l : List Int} {at_ : Int} (k : CurOk ⟨l, at_, .nil⟩) {n : Int} (h0 : 0 ≤ n) (h1 : n ≤ (l.length : Int) - at_) :
    bytes_Cursor_Take.m ⟨l, at_, .nil⟩ n = some (sub l at_ (at_ + n), ⟨l, at_ + n, .nil⟩) := by
  rw [take_eq k]
  unfold takeC
  rw [if_neg (by simp only; omega), if_pos rfl]
theorem chars_in {l : List Int} {at_ : Int} (k : CurOk ⟨l, at_, .nil⟩) :
    ∃ m : Int, 0 ≤ m ∧ m ≤ (l.length : Int) - at_ ∧ bytes_Cursor_Chars.m KK ⟨l, at_, .nil⟩ = some (sub l at_ (at_ + m), ⟨l, at_ + m, .nil⟩) := by
  have := k.h0; have := k.h1
  have hc := cnt_le (l.drop at_.toNat)
  rw [List.length_drop] at hc
  simp only at *
  refine ⟨cnt (l.drop at_.toNat), by omega, by omega, ?_⟩
  rw [chars_eq k]
  unfold charsC
  rw [if_pos rfl]
theorem cur_mv {l : List Int} {at_ n : Int} {e : GoErr} (k : CurOk ⟨l, at_, e⟩) (h0 : 0 ≤ n) (h1 : n ≤ (l.length : Int) - at_) (e' : GoErr) : CurOk ⟨l, at_ + n, e'⟩ := by
  have := k.h0; have := k.h1
  simp only at *
  exact ⟨by simp only; omega, by simp only; omega, k.h2, k.u8⟩

theorem takeLoop {b x1 : List Int} (w1 : ∀ y ∈ x1, Wf .u8 y) (hx : x1.length ≤ 100000) : ∀ (k : Nat) (i at_ : Int), 0 ≤ i → i ≤ (x1.length : Int) → (x1.length : Int) - i < k → CurOk ⟨b, at_, .nil⟩ →
    ∃ at' : Int, CurOk ⟨b, at', .nil⟩ ∧ shutterlaw06_BytesTake.l1.m KK x1 k (b.take at_.toNat) i b at_ .nil = some (b.take at'.toNat, b, at', .nil) := by
  intro k
  induction k with
  | zero => intro i at_ h0 h1 h2; omega
  | succ k ih =>
    intro i at_ h0 h1 h2 ok
    rw [shutterlaw06_BytesTake.l1.m]
    by_cases h3 : i < (x1.length : Int)
    · have hu := at_u8 w1 h0 h3
      have g0 := ok.h0; have g1 := ok.h1; have g2 := ok.h2
      simp only at g0 g1 g2
      have rest : ∀ n : Int, 0 ≤ n → n ≤ (b.length : Int) - at_ → ∃ at' : Int, CurOk ⟨b, at', .nil⟩ ∧
          ((bytes_Cursor_Take.m ⟨b, at_, .nil⟩ n).bind fun t168 => ((app (b.take at_.toNat) t168.1).bind fun l193 => ((bytes_Cursor_Chars.m KK t168.2).bind fun t209 => ((app l193 t209.1).bind fun l236 =>
            (shutterlaw06_BytesTake.l1.m KK x1 k l236 (w64 (i + 1)) t209.2.b' t209.2.at' t209.2.err'))))) = some (b.take at'.toNat, b, at', .nil) := by
        intro n n0 n1
        have ok1 := cur_mv ok n0 n1 .nil
        obtain ⟨m, m0, m1, hm⟩ := chars_in ok1
        have ok2 := cur_mv ok1 m0 m1 .nil
        obtain ⟨at', o', e'⟩ := ih (i + 1) (at_ + n + m) (by omega) (by omega) (by omega) ok2
        refine ⟨at', o', ?_⟩
        simp only [take_in ok n0 n1, Option.bind_some, app_take g2 g0 (show at_ ≤ at_ + n by omega), hm, app_take g2 (show 0 ≤ at_ + n by omega) (show at_ + n ≤ at_ + n + m by omega), w64_id (n := i + 1) (by omega) (by omega), e']
      simp only [letJ, h3, h0, if_true, left_eq ok, Option.bind_some]
      rw [w64_id (n := Sx.at_ x1 i) (by omega) (by omega)]
      by_cases hb : Sx.at_ x1 i > (b.length : Int) - at_
      · rw [if_pos hb]; exact rest _ (by omega) (by omega)
      · rw [if_neg hb]; exact rest _ hu.1 (by omega)
    · rw [if_neg h3]
      exact ⟨at_, ok, rfl⟩

theorem BytesTake_true (x0 x1 : List Int) (w0 : ∀ y ∈ x0, Wf .u8 y) (_ : x0.length ≤ maxLen) (w1 : ∀ y ∈ x1, Wf .u8 y) (_ : x1.length ≤ maxLen) : shutterlaw06_BytesTake.m KK x0 x1 = some true := by
  unfold shutterlaw06_BytesTake.m
  rw [awake06, Option.bind_some, cond_true]
  split
  · rfl
  · rename_i h300
    split
    · rfl
    · rename_i h100
      rw [new_eq (by omega), Option.bind_some]
      have ok0 : CurOk ⟨x0, 0, .nil⟩ := ⟨Int.le_refl _, by simp only; omega, by simp only; omega, w0⟩
      obtain ⟨at', ok, e⟩ := takeLoop w1 (by omega) KK 0 0 (Int.le_refl _) (by omega) (by unfold KK; omega) ok0
      simp only [Int.toNat_zero, List.take_zero] at e
      simp only [e, Option.bind_some, left_eq ok]
      have g0 := ok.h0; have g1 := ok.h1; have g2 := ok.h2
      simp only at g0 g1 g2
      rw [take_in ok (by omega) (Int.le_refl _)]
      have e1 : at' + ((x0.length : Int) - at') = (x0.length : Int) := by omega
      have ok1 := cur_mv ok (n := (x0.length : Int) - at') (by omega) (Int.le_refl _) .nil
      rw [e1] at ok1
      simp only [Option.bind_some, e1, app_take g2 g0 g1, fail_eq, err_eq]
      have f : failC ⟨x0, (x0.length : Int), .nil⟩ .nil = ⟨x0, (x0.length : Int), .nil⟩ := by unfold failC; rw [if_neg (by simp)]
      simp only [f, if_true, Int.toNat_natCast, List.take_length, same_eq g2, Option.bind_some, beq_self_eq_true, cond_true, left_eq ok1, Int.sub_self]

theorem BytesSticks_true (x0 : List Int) (x1 x2 : Int) (w0 : ∀ y ∈ x0, Wf .u8 y) (_ : x0.length ≤ maxLen) (w1 : Wf .u8 x1) (_ : Wf .i64 x2) : shutterlaw06_BytesSticks.m KK x0 x1 x2 = some true := by
  have b1 := b_u8 w1
  unfold shutterlaw06_BytesSticks.m
  rw [awake06, Option.bind_some, cond_true]
  split
  · rfl
  · rename_i h300
    rw [new_eq (by omega), Option.bind_some]
    have ok0 : CurOk ⟨x0, 0, .nil⟩ := ⟨Int.le_refl _, by simp only; omega, by simp only; omega, w0⟩
    rw [w64_id (n := (x0.length : Int) + 1) (by omega) (by omega), w64_id (n := x1) (by omega) (by omega), if_pos (by omega), Int.tmod_eq_emod_of_nonneg (by omega)]
    have p1 := Int.emod_nonneg x1 (show (x0.length : Int) + 1 ≠ 0 by omega)
    have p2 := Int.emod_lt_of_pos x1 (show 0 < (x0.length : Int) + 1 by omega)
    generalize x1 % ((x0.length : Int) + 1) = k at *
    have hk := take_in ok0 p1 (by omega)
    simp only [Int.zero_add] at hk
    rw [hk, Option.bind_some]
    have okc : CurOk ⟨x0, 0 + k, .spot (0 + k) (.no 5)⟩ := cur_mv ok0 p1 (by omega) _
    rw [Int.zero_add] at okc
    have hne : (⟨x0, k, .spot k (.no 5)⟩ : bytes_Cursor).err' ≠ .nil := by simp
    have f1 : failC ⟨x0, k, .nil⟩ (.no 5) = ⟨x0, k, .spot k (.no 5)⟩ := by unfold failC; rw [if_pos (by simp)]
    simp only [fail_eq, f1, Option.bind_some, failC_set hne, byte_eq okc, takeC_set hne, take_eq okc, addr_eq okc, chars_eq okc, peek_eq okc, letJ]
    have a1 : addrC ⟨x0, k, .spot k (.no 5)⟩ x2 = (0, ⟨x0, k, .spot k (.no 5)⟩) := by unfold addrC; rw [if_neg hne]
    have c1 : charsC ⟨x0, k, .spot k (.no 5)⟩ = ([], ⟨x0, k, .spot k (.no 5)⟩) := by unfold charsC; rw [if_neg hne]
    simp only [a1, c1, chars_eq okc, peek_eq okc, Option.bind_some]
    simp [atc_eq, err_eq, api_Code.m, api_Where.m, codeOf, code?, whereOf]
end Go.Proofs.YtenlbpcfilmgpaaDoor.Sx
