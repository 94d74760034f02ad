import Derived.Test.YtjkbhpokboolpaaGreatDoorPI
import Derived.Test.YtjkbhpokboolpaaGreatDoorPQ
import Derived.Test.YtjkbhpokboolpaaGreatDoorTA
namespace Go.Proofs.YtjkbhpokboolpaaGreatDoor.Sx
open Go
theorem getOf_pos {s : List Int} {n : Int} (h : (getOf s n).2 ≠ .nil) : 0 < codeOf (getOf s n).2 := by
  revert h
  unfold getOf
  repeat' split
  all_goals first
    | (intro h; exact absurd rfl h)
    | (intro _; simp [codeOf, code?]; done)
    | (intro hn; rcases rd6_err (at_ s 0) (at_ s 1) with e | ⟨x, e⟩ <;> simp [e, codeOf, code?] at hn ⊢)
theorem gS_cpos {s : List Int} {n : Int} (h : (gS s n).2.2 ≠ .nil) : 0 < codeOf (gS s n).2.2 := by
  cases s with
  | nil => simp [gS, codeOf, code?]
  | cons x r =>
    unfold gS at h ⊢
    simp only at h ⊢
    cases hc : chr x with
    | true => simp [hc] at h
    | false =>
      simp only [hc, Bool.false_eq_true, if_false] at h ⊢
      by_cases x19 : x = 19
      · simp [x19] at h
      simp only [x19, if_false] at h ⊢
      by_cases x5 : x = 5
      · simp [x5] at h
      simp only [x5, if_false] at h ⊢
      by_cases x29 : x = 29
      · simp only [x29, if_true] at h ⊢
        cases r with
        | nil => simp [codeOf, code?]
        | cons y r =>
          simp only at h ⊢
          split
          · rename_i h9; rw [if_pos h9] at h; exact absurd rfl h
          · simp [codeOf, code?]
      simp only [x29, if_false] at h ⊢
      by_cases h3 : x = 17 ∨ x = 18 ∨ x = 60
      · simp only [h3, if_true] at h ⊢
        by_cases hg : (getOf r n).2 = .nil
        · simp only [hg, if_true] at h ⊢
          by_cases x17 : x = 17
          · simp [x17] at h
          simp only [x17, if_false] at h ⊢
          by_cases x18 : x = 18
          · simp [x18] at h
          simp only [x18, if_false] at h ⊢
          cases hd : r.drop 2 with
          | nil => simp [codeOf, code?]
          | cons z t =>
            rw [hd] at h
            simp only at h ⊢
            split
            · rename_i h9; rw [if_pos h9] at h; exact absurd rfl h
            · simp [codeOf, code?]
        · rw [if_neg hg]; exact getOf_pos hg
      · simp only [h3, if_false]; simp [codeOf, code?]
theorem rd_cpos {n : Int} : ∀ (k : Nat) (s : List Int), s.length ≤ k → (rd n s).2.2 ≠ .nil → 0 < codeOf (rd n s).2.2 := by
  intro k
  induction k with
  | zero =>
    intro s hs
    have : s = [] := List.eq_nil_of_length_eq_zero (by omega)
    subst this
    rw [rd_nil']
    simp
  | succ k ih =>
    intro s hs
    by_cases hn : s = []
    · subst hn; rw [rd_nil']; simp
    · rw [rd_cons hn]
      by_cases hg : (gS s n).2.2 = .nil
      · rw [if_pos hg]
        have hp := gS_pos hg
        have hne : 0 < s.length := by cases s with | nil => exact absurd rfl hn | cons x y => simp
        exact ih (s.drop (gS s n).2.1) (by rw [List.length_drop]; omega)
      · rw [if_neg hg]
        exact gS_cpos
theorem fd_cpos {n : Int} : ∀ (k : Nat) (s : List Int), s.length ≤ k → (fd n s).2.2 ≠ .nil → 0 < codeOf (fd n s).2.2 := by
  intro k
  induction k with
  | zero =>
    intro s hs
    have : s = [] := List.eq_nil_of_length_eq_zero (by omega)
    subst this
    intro h; exact absurd rfl h
  | succ k ih =>
    intro s hs
    cases s with
    | nil => intro h; exact absurd rfl h
    | cons x r =>
      rw [fd_cons]
      simp only [List.length_cons] at hs
      by_cases hx : x = 17
      · rw [if_pos hx]
        by_cases hg : (getOf r n).2 = .nil
        · rw [if_pos hg]
          exact ih _ (by rw [List.length_drop, List.length_drop]; omega)
        · rw [if_neg hg]
          intro _; exact getOf_pos hg
      · rw [if_neg hx]; intro _; simp [codeOf, code?]
theorem readOf_cpos {b : List Int} {n : Int} (h : (readOf b n).2 ≠ .nil) : 0 < codeOf (readOf b n).2 := by
  have cs : ∀ (a : Int) (e : GoErr), codeOf (.spot a e) = codeOf e := fun _ _ => rfl
  have cn : ∀ k : Int, codeOf (.no k) = k := fun _ => rfl
  revert h
  unfold readOf
  split
  · intro _; simp only [cs, cn]; decide
  cases b with
  | nil => intro _; simp only [cs, cn]; decide
  | cons c r =>
    simp only
    cases hk : knownC c with
    | false => intro _; simp only [Bool.false_eq_true, if_false, cs, cn]; decide
    | true =>
      simp only [if_true]
      cases hc : writesC c with
      | false =>
        simp only [Bool.false_eq_true, if_false]
        by_cases hr : r = []
        · rw [if_pos hr]; intro h; exact absurd rfl h
        · rw [if_neg hr]; intro _; simp only [cs, cn]; decide
      | true =>
        simp only [if_true]
        cases r with
        | nil => intro _; simp only [cs, cn]; decide
        | cons x s =>
          simp only
          by_cases hx : (getW x).2 = .nil
          · rw [if_pos hx]
            by_cases hd : (rd n s).2.2 = .nil
            · rw [if_pos hd]; intro h; exact absurd rfl h
            · rw [if_neg hd]
              intro _
              simp only [cs]
              exact rd_cpos (n := n) s.length s (Nat.le_refl _) hd
          · rw [if_neg hx]; intro _; simp only [cs, cn]; decide
theorem readI_cpos {b : List Int} {n : Int} (h : (readI b n).2 ≠ .nil) : 0 < codeOf (readI b n).2 := by
  have cs : ∀ (a : Int) (e : GoErr), codeOf (.spot a e) = codeOf e := fun _ _ => rfl
  have cn : ∀ k : Int, codeOf (.no k) = k := fun _ => rfl
  revert h
  unfold readI
  split
  · intro _; simp only [cs, cn]; decide
  cases b with
  | nil => intro _; simp only [cs, cn]; decide
  | cons c r =>
    simp only
    split
    · split
      · split
        · intro h; exact absurd rfl h
        · intro _; simp only [cs, cn]; decide
      · split
        · split
          · split
            · intro h; exact absurd rfl h
            · rename_i hd
              intro _; simp only [cs, cn]
              exact fd_cpos (n := n) _ _ (Nat.le_refl _) hd
          · split
            · intro _; simp only [cs, cn]; decide
            · intro h; exact absurd rfl h
        · rename_i hg
          intro _; simp only [cs, cn]
          exact getOf_pos hg
    · intro _; simp only [cs, cn]; decide
theorem u16size {x : Int} (h : Wf .u16 x) : w64 (1 + Int.tmod (w64 x) 16383) = 1 + x % 16383 := by
  have b := b_u16 h
  rw [w64_id (n := x) (by omega) (by omega), Int.tmod_eq_emod_of_nonneg (by omega), w64_id (by omega) (by omega)]
theorem WholeFormats_true (x0 : api_Out) (x1 : api_In) (x2 : Int) (x3 : List Int) (w0 : ok_api_Out x0) (w1 : ok_api_In x1) (w2 : Wf .u16 x2) (w3 : ∀ y ∈ x3, Wf .u8 y) (_ : x3.length ≤ maxLen) : shuttertop_WholeFormats.m KK x0 x1 x2 x3 = some true := by
  have hb2 := b_u16 w2
  have n1 : 1 ≤ 1 + x2 % 16383 := by omega
  have n2 : 1 + x2 % 16383 ≤ 16383 := by omega
  unfold shuttertop_WholeFormats.m
  obtain ⟨b, e, hb⟩ := few_eq x0
  obtain ⟨c, e', hc⟩ := few9_eq x1
  simp only [awakeTop, Option.bind_some, cond_true, e]
  cases b with
  | false => rfl
  | true =>
    have f := hb rfl
    simp only [cond_true, e', Option.bind_some]
    cases c with
    | false => rfl
    | true =>
      have hf := hc rfl
      simp only [cond_true]
      by_cases hl : (x3.length : Int) > 9000
      · rw [if_pos hl]
      rw [if_neg hl, u16size w2]
      have hn := f.n
      have hl' : x3.length ≤ 100000 := by omega
      have hx : ∀ x ∈ x0.Orders, x.Text.length ≤ 100000 := fun x h => Nat.le_trans (f.t x h) (by decide)
      obtain ⟨wa, wt⟩ := okIn w1
      generalize 1 + x2 % 16383 = n at n1 n2
      obtain ⟨t1, t2⟩ := readOf_texts (n := n) hl'
      obtain ⟨s1, s2⟩ := readI_texts (n := n) w3 n1 n2 hl'
      have hs : x1.Fields.length ≤ 100000 := by have := hf.len; omega
      have ht : ∀ f ∈ x1.Fields, f.Text.length ≤ 100000 := fun f hx => by have := hf.text f hx; omega
      simp only [swrite_eq n1 n2 f.tot hx (show x0.Orders.length ≤ 100000 by omega), Option.bind_some, letJ, hf.write n1 n2, sread_eq w3 hl', read9_eq w3 n1 n2 hl', api_Code.m]
      have last : (if (readOf x3 n).2 = GoErr.nil then if (readI x3 n).2 = GoErr.nil then some true else some (decide (codeOf (readI x3 n).2 > 0)) else
          if codeOf (readOf x3 n).2 > 0 then if (readI x3 n).2 = GoErr.nil then some true else some (decide (codeOf (readI x3 n).2 > 0)) else some false) = some true := by
        have q : (if (readI x3 n).2 = GoErr.nil then some true else some (decide (codeOf (readI x3 n).2 > 0))) = some true := by
          by_cases g : (readI x3 n).2 = .nil
          · rw [if_pos g]
          · rw [if_neg g, decide_eq_true (readI_cpos g)]
        rw [q]
        by_cases g : (readOf x3 n).2 = .nil
        · rw [if_pos g]
        · rw [if_neg g, if_pos (readOf_cpos g)]
      rw [last]
      have third : (if (readI x3 n).2 = GoErr.nil then bif true then (input_Write.m KK (readI x3 n).1 n).bind fun t136 => (if t136.2 = GoErr.nil then ((shutterref01_Same.m KK t136.1 x3).bind fun t146 => bif t146 then some true else (some false)) else (some false)) else some true
          else bif false then (input_Write.m KK (readI x3 n).1 n).bind fun t136 => (if t136.2 = GoErr.nil then ((shutterref01_Same.m KK t136.1 x3).bind fun t146 => bif t146 then some true else (some false)) else (some false)) else some true) = some true := by
        by_cases g : (readI x3 n).2 = .nil
        · rw [if_pos g, cond_true, readI_ok w3 n1 n2 hl' g]
          simp only [Option.bind_some, if_true, same_eq hl', beq_self_eq_true, cond_true]
        · rw [if_neg g, cond_false]
      rw [third]
      have second : (if (readOf x3 n).2 = GoErr.nil then bif true then (stream_Write.m KK (readOf x3 n).1 n).bind fun t136 => (if t136.2 = GoErr.nil then ((shutterref01_Same.m KK t136.1 x3).bind fun t146 => bif t146 then some true else (some false)) else (some false)) else some true
          else bif false then (stream_Write.m KK (readOf x3 n).1 n).bind fun t136 => (if t136.2 = GoErr.nil then ((shutterref01_Same.m KK t136.1 x3).bind fun t146 => bif t146 then some true else (some false)) else (some false)) else some true) = some true := by
        by_cases g : (readOf x3 n).2 = .nil
        · rw [if_pos g, cond_true, swrite_eq n1 n2 (readOf_tot w3 n1 n2 hl') t2 t1, Option.bind_some, writeOf_read w3 n1 n2 g]
          simp only [if_true, same_eq hl', beq_self_eq_true, Option.bind_some, cond_true]
        · rw [if_neg g, cond_false]
      rw [second]
      have first2 : (if (writeI x1 n).2 = GoErr.nil then bif true then (input_Read.m KK (writeI x1 n).1 n).bind fun t78 => (if t78.2 = GoErr.nil then ((input_Same.m KK t78.1 x1).bind fun t89 => bif t89 then some true else (some false)) else (some false)) else some true
          else bif false then (input_Read.m KK (writeI x1 n).1 n).bind fun t78 => (if t78.2 = GoErr.nil then ((input_Same.m KK t78.1 x1).bind fun t89 => bif t89 then some true else (some false)) else (some false)) else some true) = some true := by
        by_cases he : (writeI x1 n).2 = .nil
        · have hu := writeI_u8 n1 n2 wa wt he
          have hq := writeI_len (o := x1) (n := n)
          rw [if_pos he, cond_true, read9_eq hu n1 n2 (by omega), Option.bind_some, readI_write n1 n2 he]
          simp only [if_true, sameI_eq hs ht, Option.bind_some, beq_self_eq_true, cond_true]
        · rw [if_neg he, cond_false]
      rw [first2]
      by_cases hw : (writeOf x0 n).2 = GoErr.nil
      · have hr := readOf_write n1 n2 hw
        have hu : ∀ y ∈ (writeOf x0 n).1, Wf .u8 y := writeOf_u8' n1 n2 (okOut w0)
        rw [if_pos hw, cond_true, sread_eq hu (Nat.le_trans writeOf_len (by decide)), Option.bind_some, hr]
        simp only [if_true, same_out (a := x0) (b := x0) (by omega) hx, beq_self_eq_true, Option.bind_some, cond_true]
      · rw [if_neg hw, cond_false]
end Go.Proofs.YtjkbhpokboolpaaGreatDoor.Sx
