import Derived.Test.YtjkbhpokboolpaaGreatDoorKU
import Derived.Test.YtjkbhpokboolpaaGreatDoorFA
namespace Go.Proofs.YtjkbhpokboolpaaGreatDoor.Sx
open Go
set_option maxRecDepth 100000
set_option maxHeartbeats 4000000
def okD (p : api_Pack) : Prop := (∀ y ∈ p.Data, Wf .u8 y) ∧ (p.Data.length = 64 ∨ (p.Last = true ∧ 1 ≤ p.Data.length ∧ p.Data.length < 64))
def okP (p : api_Pack) : Prop := 1 ≤ p.Num ∧ p.Num ≤ 1000 ∧ okD p
theorem clone_b {l : List Int} (h : l.length ≤ 100000) : slices_Clone_bytes.m l = some l := by
  unfold slices_Clone_bytes.m
  rw [appk (by simp; omega)]; rfl
theorem sub_u8 {x : List Int} (w : ∀ y ∈ x, Wf .u8 y) (i j : Int) : ∀ y ∈ sub x i j, Wf .u8 y := fun y hy => by
  unfold sub at hy
  exact w y (List.mem_of_mem_drop (List.mem_of_mem_take hy))
theorem cut_l {x : List Int} (w : ∀ y ∈ x, Wf .u8 y) (hx : x.length ≤ 8192) : ∀ (k : Nat) (i : Int) (acc : List api_Pack), 0 ≤ i → i < (x.length : Int) → (x.length : Int) - i ≤ 64 * k → acc.length ≤ i →
    ∃ (ps : List api_Pack) (p : api_Pack), piece_Cut.l1.m KK x (chX 64 x.length k i) acc = some (acc ++ (ps ++ [p])) ∧ (∀ q ∈ ps, okD q) ∧ (∀ y ∈ p.Data, Wf .u8 y) ∧ 1 ≤ p.Data.length ∧ p.Data.length ≤ 64 ∧ 64 * (ps.length : Int) < (x.length : Int) - i := by
  intro k
  induction k with
  | zero => intro i acc _ _ h; omega
  | succ k ih =>
    intro i acc i0 i1 hk ha
    have hm : mn 64 ((x.length : Int) - i) ≤ 64 ∧ mn 64 ((x.length : Int) - i) ≤ (x.length : Int) - i ∧ (mn 64 ((x.length : Int) - i) = 64 ∨ mn 64 ((x.length : Int) - i) = (x.length : Int) - i) := by
      unfold mn; split <;> omega
    generalize hmn : mn 64 ((x.length : Int) - i) = d at hm
    have hsl : (sub x i (i + d)).length = d.toNat := by
      rw [sub_length (by omega)]; omega
    unfold chX
    rw [if_pos i1, piece_Cut.l1.m]
    unfold chE
    rw [hmn, clone_b (by omega), Option.bind_some, appk (by simp; omega), Option.bind_some]
    by_cases h : (x.length : Int) ≤ i + 64
    · have e : chX 64 x.length k (i + 64) = [] := by
        cases k with
        | zero => rfl
        | succ k => unfold chX; rw [if_neg (by omega)]
      rw [e, piece_Cut.l1.m]
      refine ⟨[], _, rfl, (by simp), sub_u8 w _ _, ?_, ?_, ?_⟩
      · show 1 ≤ (sub x i (i + d)).length; omega
      · show (sub x i (i + d)).length ≤ 64; omega
      · simp; omega
    · obtain ⟨ps, p, e, h1, h2, h3, h4, h5⟩ := ih (i + 64) (acc ++ [⟨0, w64 ((acc.length : Int) + 1), false, sub x i (i + d)⟩]) (by omega) (by omega) (by omega) (by simp; omega)
      refine ⟨⟨0, w64 ((acc.length : Int) + 1), false, sub x i (i + d)⟩ :: ps, p, ?_, ?_, h2, h3, h4, ?_⟩
      · rw [e]; simp
      · intro q hq
        rcases List.mem_cons.1 hq with rfl | hq
        · exact ⟨sub_u8 w _ _, .inl (by show (sub x i (i + d)).length = 64; omega)⟩
        · exact h1 q hq
      · simp only [List.length_cons]; omega
theorem cut_eq {x : List Int} (w : ∀ y ∈ x, Wf .u8 y) (h0 : 1 ≤ x.length) (hx : x.length ≤ 8192) :
    ∃ ps : List api_Pack, piece_Cut.m KK x = some (ps, .nil) ∧ (∀ q ∈ ps, okD q) ∧ 64 * ((ps.length : Int) - 1) < (x.length : Int) ∧ 1 ≤ ps.length := by
  obtain ⟨ps, p, e, h1, h2, h3, h4, h5⟩ := cut_l w hx x.length 0 [] (by omega) (by omega) (by omega) (by simp)
  have hb : 64 * (ps.length : Int) < (x.length : Int) := by omega
  refine ⟨ps ++ [⟨p.Ack, p.Num, true, p.Data⟩], ?_, ?_, ?_, ?_⟩
  · unfold piece_Cut.m slices_Chunk_bytes.m
    rw [if_neg (by omega), if_neg (by omega), if_pos ⟨by decide, by decide, by omega⟩, Option.bind_some, e, Option.bind_some, List.nil_append]
    have hl : w64 (((ps ++ [p]).length : Int) - 1) = (ps.length : Int) := by
      rw [List.length_append, List.length_singleton, w64_id (by omega) (by omega)]; omega
    rw [hl, if_pos (by omega), if_pos (by simp only [List.length_append, List.length_singleton]; omega), at_last rfl, set_last rfl]
  · intro q hq
    rcases List.mem_append.1 hq with hq | hq
    · exact h1 q hq
    · obtain rfl := List.mem_singleton.1 hq
      refine ⟨h2, ?_⟩
      by_cases h64 : p.Data.length = 64
      · exact .inl h64
      · exact .inr ⟨rfl, h3, by show p.Data.length < 64; omega⟩
  · simp only [List.length_append, List.length_singleton]; omega
  · simp
structure LN (l : line_Line) : Prop where
  q : ∀ p ∈ l.queue', okP p
  len : l.queue'.length ≤ 200
  giv : l.given' = (l.queue'.length : Int)
  aw : l.await' = 1
  ow : l.owes' = false
  w0 : 0 ≤ l.wait'
  w1 : l.wait' ≤ 100
  f0 : 0 ≤ l.left'
  f1 : l.left' ≤ 100
theorem send_l {t : List api_Pack × GoErr} (ht : ∀ q ∈ t.1, okD q) (hb : t.1.length ≤ 1000) : ∀ (k : Nat) (i : Int) (q : List api_Pack) (g : Int), 0 ≤ i → i ≤ (t.1.length : Int) → (t.1.length : Int) - i < k → g = (q.length : Int) → (∀ p ∈ q, okP p) → (q.length : Int) + ((t.1.length : Int) - i) ≤ 200 →
    ∃ q' g', line_Line_Send.l1.m KK t k i q g = some (q', g') ∧ g' = (q'.length : Int) ∧ (∀ p ∈ q', okP p) ∧ (q'.length : Int) = (q.length : Int) + ((t.1.length : Int) - i) := by
  intro k
  induction k with
  | zero => intro i q g _ _ h; omega
  | succ k ih =>
    intro i q g i0 i1 hk hg hq hs
    rw [line_Line_Send.l1.m]
    simp only [letJ]
    by_cases h3 : i < (t.1.length : Int)
    · have hD := ht _ (at_in i0 h3)
      have hg' : w64 (g + 1) = g + 1 := w64_id (by omega) (by omega)
      rw [if_pos h3, cond_true, if_pos i0, if_pos h3, appk (by simp; omega), Option.bind_some, w64_id (n := i + 1) (by omega) (by omega), hg']
      obtain ⟨q', g', e, h1, h2, h4⟩ := ih (i + 1) (q ++ [⟨(at_ t.1 i).Ack, g + 1, (at_ t.1 i).Last, (at_ t.1 i).Data⟩]) (g + 1) (by omega) (by omega) (by omega) (by simp; omega) (fun p hp => by
        rcases List.mem_append.1 hp with hp | hp
        · exact hq p hp
        · obtain rfl := List.mem_singleton.1 hp
          exact ⟨by show 1 ≤ g + 1; omega, by show g + 1 ≤ 1000; omega, hD⟩) (by simp; omega)
      exact ⟨q', g', e, h1, h2, by rw [h4]; simp; omega⟩
    · rw [if_neg h3, cond_false]
      exact ⟨q, g, rfl, hg, hq, by omega⟩
theorem send_eq {l : line_Line} (L : LN l) {x : List Int} (w : ∀ y ∈ x, Wf .u8 y) (h0 : 1 ≤ x.length) (hx : x.length ≤ 8192) :
    ∃ e l', line_Line_Send.m KK l x = some (e, l') ∧ LN l' ∧ (e = .nil ∨ e = .no 10) ∧ l'.kept' = l.kept' ∧ l'.coming' = l.coming' ∧ (x.length ≤ 64 → l.queue'.length < 200 → e = .nil ∧ l'.queue'.length = l.queue'.length + 1) := by
  obtain ⟨ps, ec, h1, h2, h3⟩ := cut_eq w h0 hx
  have hl := L.len
  unfold line_Line_Send.m
  rw [ec, Option.bind_some, if_pos rfl]
  unfold line_Line_room.m
  simp only [Option.bind_some]
  rw [w64_id (n := 200 - (l.queue'.length : Int)) (by omega) (by omega)]
  by_cases hr : (ps.length : Int) ≤ 200 - (l.queue'.length : Int)
  · rw [decide_eq_true hr, cond_true]
    obtain ⟨q', g', e, k1, k2, k3⟩ := send_l (t := (ps, .nil)) h1 (by simp only; omega) KK 0 l.queue' l.given' (by omega) (by simp) (by simp only; unfold KK; omega) L.giv L.q (by simp only; omega)
    have k3' : (q'.length : Int) = (l.queue'.length : Int) + (ps.length : Int) := by rw [k3]; simp
    unfold line_Line_now.m
    simp only [letJ, Option.bind_some, e]
    have one : x.length ≤ 64 → q'.length = l.queue'.length + 1 := fun h => by omega
    split
    · exact ⟨_, _, rfl, ⟨k2, by show q'.length ≤ 200; omega, k1, L.aw, L.ow, by show (0 : Int) ≤ 1; omega, by show (1 : Int) ≤ 100; omega, by show (0 : Int) ≤ 0; omega, by show (0 : Int) ≤ 100; omega⟩, .inl rfl, rfl, rfl, fun h _ => ⟨rfl, one h⟩⟩
    · exact ⟨_, _, rfl, ⟨k2, by show q'.length ≤ 200; omega, k1, L.aw, L.ow, L.w0, L.w1, L.f0, L.f1⟩, .inl rfl, rfl, rfl, fun h _ => ⟨rfl, one h⟩⟩
  · rw [decide_eq_false hr, cond_false]
    exact ⟨_, _, rfl, ⟨L.q, L.len, L.giv, L.aw, L.ow, L.w0, L.w1, L.f0, L.f1⟩, .inr rfl, rfl, rfl, fun h g => by omega⟩
def told (p : api_Pack) : api_Pack := ⟨0, p.Num, p.Last, p.Data⟩
theorem tick_l {l : line_Line} (L : LN l) (d : List api_Pack) (hd : sub l.queue' 0 (mn 8 (l.queue'.length : Int)) = d) (hD : d.length ≤ 8) (hq : ∀ p ∈ d, okP p) : ∀ (k : Nat) (acc : List api_Pack) (i : Int) (g a w f : Int) (o : Bool), 0 ≤ i → i ≤ (d.length : Int) → (d.length : Int) - i < k → acc.length ≤ i → a = 1 →
    line_Line_Tick.l1.m KK l k acc i g a w f o = some (acc ++ (d.drop i.toNat).map told, g, a, w, f, o) := by
  intro k
  induction k with
  | zero => intro acc i g a w f o _ _ h; omega
  | succ k ih =>
    intro acc i g a w f o i0 i1 hk ha h1
    rw [line_Line_Tick.l1.m]
    simp only [letJ, hd]
    by_cases h3 : i < (d.length : Int)
    · have hp := hq _ (at_in i0 h3)
      have hdl : (at_ d i).Data.length ≤ 100000 := by have := hp.2.2.2; omega
      unfold line_Line_told.m
      rw [if_pos h3, cond_true, if_pos i0, if_pos h3, clone_b hdl]
      simp only [Option.bind_some]
      rw [appk (by simp; omega), Option.bind_some, w64_id (n := i + 1) (by omega) (by omega), ih _ (i + 1) g a w f o (by omega) (by omega) (by omega) (by simp; omega) h1, at_cons i0 h3, h1]
      simp only [List.map_cons, List.append_assoc, List.singleton_append]
      rfl
    · rw [if_neg h3, cond_false, List.drop_eq_nil_of_le (by omega)]
      simp
theorem tick_eq {l : line_Line} (L : LN l) : ∃ ps l', line_Line_Tick.m KK l = some (ps, l') ∧ LN l' ∧ l'.queue' = l.queue' ∧ ps.length ≤ 8 ∧ ∀ p ∈ ps, okP p ∧ p.Ack = 0 := by
  have hl := L.len; have aw := L.aw; have ow := L.ow; have w0 := L.w0; have w1 := L.w1; have f0 := L.f0; have f1 := L.f1
  have dsub : ∀ p ∈ sub l.queue' 0 (mn 8 (l.queue'.length : Int)), okP p := fun p hp => by
    unfold sub at hp
    exact L.q p (List.mem_of_mem_drop (List.mem_of_mem_take hp))
  have hmn : 0 ≤ mn 8 (l.queue'.length : Int) ∧ mn 8 (l.queue'.length : Int) ≤ (l.queue'.length : Int) ∧ mn 8 (l.queue'.length : Int) ≤ 8 := by unfold mn; split <;> omega
  have dlen : (sub l.queue' 0 (mn 8 (l.queue'.length : Int))).length ≤ 8 := by rw [sub_length hmn.2.1]; omega
  have fin : ∀ (x : Int), 0 ≤ x → x ≤ 100 → ∃ ps l', (letJ (α := (List api_Pack) → Int → Int → Int → Int → Bool → Option ((List api_Pack) × line_Line)) (fun x2 x4 x5 x6 x7 xH => (if (x2.length : Int) = 0 then (bif xH then none else (some (x2, (⟨l.queue', x4, x5, l.kept', l.coming', x6, x7, false⟩ : line_Line)))) else (some (x2, (⟨l.queue', x4, x5, l.kept', l.coming', x6, x7, false⟩ : line_Line))))) fun j3 => (letJ (α := Bool → Option ((List api_Pack) × line_Line)) (fun x9 => (bif x9 then (if 0 ≤ (mn 8 (l.queue'.length : Int)) then (if (mn 8 (l.queue'.length : Int)) ≤ (l.queue'.length : Int) then ((line_Line_Tick.l1.m KK l KK [] 0 l.given' l.await' l.wait' x l.owes').bind fun (xA, xD, xF, x3, xM, xG) => (j3 xA xD xF (mn (w64 (2 * x3)) 16) x3 xG)) else none) else none) else (j3 [] l.given' l.await' l.wait' x l.owes'))) fun j0 => (if (l.queue'.length : Int) > 0 then (if x = 0 then (j0 true) else (j0 false)) else (j0 false)))) = some (ps, l') ∧ LN l' ∧ l'.queue' = l.queue' ∧ ps.length ≤ 8 ∧ ∀ p ∈ ps, okP p ∧ p.Ack = 0 := by
    intro x x0 x1
    have none' : ∃ ps l', (if (([] : List api_Pack).length : Int) = 0 then (bif l.owes' then none else (some (([] : List api_Pack), (⟨l.queue', l.given', l.await', l.kept', l.coming', l.wait', x, false⟩ : line_Line)))) else (some (([] : List api_Pack), (⟨l.queue', l.given', l.await', l.kept', l.coming', l.wait', x, false⟩ : line_Line)))) = some (ps, l') ∧ LN l' ∧ l'.queue' = l.queue' ∧ ps.length ≤ 8 ∧ ∀ p ∈ ps, okP p ∧ p.Ack = 0 := by
      rw [if_pos (show (([] : List api_Pack).length : Int) = 0 from rfl), ow, cond_false]
      exact ⟨_, _, rfl, ⟨L.q, hl, L.giv, aw, rfl, w0, w1, x0, x1⟩, rfl, by simp, by simp⟩
    simp only [letJ]
    by_cases hn : (l.queue'.length : Int) > 0
    · rw [if_pos hn]
      by_cases hx : x = 0
      · have hmap : ∀ p ∈ (sub l.queue' 0 (mn 8 (l.queue'.length : Int))).map told, okP p ∧ p.Ack = 0 := fun p hp => by
          obtain ⟨q, hq, rfl⟩ := List.mem_map.1 hp
          exact ⟨dsub q hq, rfl⟩
        rw [if_pos hx, cond_true, if_pos hmn.1, if_pos hmn.2.1, tick_l L _ rfl dlen dsub KK [] 0 _ _ _ _ _ (by omega) (by omega) (by unfold KK; omega) (by simp) aw]
        simp only [Option.bind_some, Int.toNat_zero, List.drop_zero, List.nil_append]
        have hw : 0 ≤ mn (w64 (2 * l.wait')) 16 ∧ mn (w64 (2 * l.wait')) 16 ≤ 100 := by
          rw [w64_id (by omega) (by omega)]; unfold mn; split <;> omega
        rw [if_neg (by rw [List.length_map, sub_length hmn.2.1]; unfold mn; split <;> omega)]
        exact ⟨_, _, rfl, ⟨L.q, hl, L.giv, aw, rfl, hw.1, hw.2, w0, w1⟩, rfl, by rw [List.length_map]; exact dlen, hmap⟩
      · rw [if_neg hx, cond_false]; exact none'
    · rw [if_neg hn, cond_false]; exact none'
  unfold line_Line_Tick.m
  simp only [letJ] at fin ⊢
  by_cases hn : (l.queue'.length : Int) > 0
  · rw [if_pos hn, cond_true]
    have hx : 0 ≤ mx 0 (w64 (l.left' - 1)) ∧ mx 0 (w64 (l.left' - 1)) ≤ 100 := by
      rw [w64_id (by omega) (by omega)]; unfold mx; split <;> omega
    exact fin _ hx.1 hx.2
  · rw [if_neg hn, cond_false]
    exact fin _ f0 f1
def nb (m : Int) : List Int := [0, 0, m / 256 % 256, m % 256]
theorem number_eq {m : Int} (h0 : 0 ≤ m) (h1 : m ≤ 1000) : piece_number.m m = some (nb m) := by
  obtain ⟨n, rfl⟩ : ∃ n : Nat, m = n := ⟨m.toNat, by omega⟩
  have e24 : shr .i64 (n : Int) 24 = 0 := by
    have := shr64_nat (x := n) (n := 24) (by omega)
    rw [show ((24 : Nat) : Int) = 24 from rfl] at this
    rw [this, Nat.div_eq_of_lt (by omega)]; rfl
  have e16 : shr .i64 (n : Int) 16 = 0 := by
    have := shr64_nat (x := n) (n := 16) (by omega)
    rw [show ((16 : Nat) : Int) = 16 from rfl] at this
    rw [this, Nat.div_eq_of_lt (by omega)]; rfl
  have e8 : shr .i64 (n : Int) 8 = (n : Int) / 256 := by
    have := shr64_nat (x := n) (n := 8) (by omega)
    rw [show ((8 : Nat) : Int) = 8 from rfl] at this
    rw [this]; omega
  unfold piece_number.m nb
  rw [e24, e16, e8, wrap_u8, wrap_u8, wrap_u8]
  rfl
def bodyOf (p : api_Pack) : List Int := nb 0 ++ (nb p.Num ++ ((if p.Last = true then 1 else 0) :: p.Data))
theorem concat_eq {a b c d : List Int} (h : a.length + b.length + c.length + d.length ≤ 1000) (h0 : 1 ≤ a.length) : slices_Concat_bytes.m KK [a, b, c, d] = some (a ++ (b ++ (c ++ d))) := by
  have l4 : (([a, b, c, d] : List (List Int)).length : Int) = 4 := rfl
  have f1 : ∀ k, slices_Concat_bytes.l1.m KK [a, b, c, d] (k + 1 + 1 + 1 + 1 + 1) 0 0 = some ((a.length : Int) + b.length + c.length + d.length) := by
    intro k
    simp only [slices_Concat_bytes.l1.m, letJ, l4, show at_ [a, b, c, d] 0 = a from rfl, show w64 (0 + 1) = 1 from by decide, show w64 (1 + 1) = 2 from by decide, show w64 (2 + 1) = 3 from by decide, show w64 (3 + 1) = 4 from by decide,
      show at_ [a, b, c, d] 1 = b from rfl, show at_ [a, b, c, d] 2 = c from rfl, show at_ [a, b, c, d] 3 = d from rfl, Int.zero_add, show w64 1 = 1 from by decide]
    rw [w64_id (n := (a.length : Int)) (by omega) (by omega), w64_id (n := (a.length : Int) + b.length) (by omega) (by omega), w64_id (n := (a.length : Int) + b.length + c.length) (by omega) (by omega), w64_id (n := (a.length : Int) + b.length + c.length + d.length) (by omega) (by omega)]
    simp only [show (0 : Int) < 4 ↔ True from by decide, show (1 : Int) < 4 ↔ True from by decide, show (2 : Int) < 4 ↔ True from by decide, show (3 : Int) < 4 ↔ True from by decide, show (4 : Int) < 4 ↔ False from by decide, if_true, if_false, cond_true, cond_false,
      show (0 : Int) ≤ 0 ↔ True from by decide, show (0 : Int) ≤ 1 ↔ True from by decide, show (0 : Int) ≤ 2 ↔ True from by decide, show (0 : Int) ≤ 3 ↔ True from by decide]
    rw [if_neg (by omega), if_neg (by omega), if_neg (by omega), if_neg (by omega)]
  have e1 : slices_Concat_bytes.l1.m KK [a, b, c, d] KK 0 0 = _ := f1 1048571
  have f2 : ∀ k, slices_Concat_bytes.l2.m KK [a, b, c, d] (k + 1 + 1 + 1 + 1 + 1) [] 0 = some (a ++ (b ++ (c ++ d))) := by
    intro k
    simp only [slices_Concat_bytes.l2.m, l4, show at_ [a, b, c, d] 0 = a from rfl, show w64 (0 + 1) = 1 from by decide, show w64 (1 + 1) = 2 from by decide, show w64 (2 + 1) = 3 from by decide, show w64 (3 + 1) = 4 from by decide,
      show at_ [a, b, c, d] 1 = b from rfl, show at_ [a, b, c, d] 2 = c from rfl, show at_ [a, b, c, d] 3 = d from rfl,
      show (0 : Int) < 4 ↔ True from by decide, show (1 : Int) < 4 ↔ True from by decide, show (2 : Int) < 4 ↔ True from by decide, show (3 : Int) < 4 ↔ True from by decide, show (4 : Int) < 4 ↔ False from by decide, if_true, if_false,
      show (0 : Int) ≤ 0 ↔ True from by decide, show (0 : Int) ≤ 1 ↔ True from by decide, show (0 : Int) ≤ 2 ↔ True from by decide, show (0 : Int) ≤ 3 ↔ True from by decide]
    rw [appk (by simp; omega), Option.bind_some, appk (by simp; omega), Option.bind_some, appk (by simp; omega), Option.bind_some, appk (by simp; omega), Option.bind_some]
    simp
  have e2 : slices_Concat_bytes.l2.m KK [a, b, c, d] KK [] 0 = _ := f2 1048571
  unfold slices_Concat_bytes.m slices_Grow_bytes.m gz
  rw [e1, Option.bind_some, if_neg (by omega), show w64 (0 - 0) = 0 from by decide, Int.sub_zero, w64_id (by omega) (by omega), if_pos (by omega), if_pos ⟨by omega, by omega⟩, Option.bind_some, if_pos (by omega)]
  rw [Option.bind_some, show sub (List.replicate ((a.length : Int) + b.length + c.length + d.length).toNat (0 : Int)) 0 0 = [] from by unfold sub; simp, e2]
  rfl
theorem bodyOf_ok {p : api_Pack} (h : okP p) : (∀ y ∈ bodyOf p, Wf .u8 y) ∧ (bodyOf p).length = 9 + p.Data.length ∧ p.Data.length ≤ 64 := by
  have h1 := h.1; have h2 := h.2.1
  refine ⟨fun y hy => ?_, ?_, by have := h.2.2.2; omega⟩
  · unfold bodyOf nb at hy
    simp only [List.mem_append, List.mem_cons, List.not_mem_nil, or_false] at hy
    rcases hy with (rfl | rfl | rfl | rfl) | (rfl | rfl | rfl | rfl) | rfl | hy
    all_goals first
      | exact h.2.2.1 y hy
      | exact wf8i (by omega) (by omega)
      | (split <;> exact wf8i (by decide) (by decide))
  · unfold bodyOf nb; simp; omega
theorem pwrite_eq {p : api_Pack} (h : okP p) (ha : p.Ack = 0) : piece_Write.m KK p = some (bodyOf p, .nil) := by
  have h1 := h.1; have h2 := h.2.1
  have hl := (bodyOf_ok h).2.2
  have may : piece_may.m p = some true := by
    unfold piece_may.m
    rw [ha, if_neg (by decide), if_neg (by decide), if_neg (by omega), if_neg (by omega), if_neg (by omega)]
    rcases h.2.2.2 with e | ⟨e1, e2, e3⟩
    · rw [if_pos (by omega)]
    · rw [if_neg (by omega), e1, cond_true, if_pos (by omega), decide_eq_true (by omega)]
  unfold piece_Write.m
  rw [may, Option.bind_some, cond_true]
  simp only [letJ, ha, number_eq (m := 0) (by omega) (by omega), number_eq (m := p.Num) (by omega) h2, Option.bind_some]
  unfold bodyOf
  cases hL : p.Last with
  | true => rw [cond_true, concat_eq (by simp [nb]; omega) (by simp [nb])]; rfl
  | false => rw [cond_false, concat_eq (by simp [nb]; omega) (by simp [nb])]; rfl
theorem pread_eq {p : api_Pack} (h : okP p) : ∃ q, shutterref22_Read.m KK (bodyOf p) = some (q, 0) := by
  have h1 := h.1; have h2 := h.2.1
  obtain ⟨wb, hlen, hl⟩ := bodyOf_ok h
  have hd : 1 ≤ p.Data.length := by have := h.2.2.2; omega
  have L9 : ((bodyOf p).length : Int) = 9 + p.Data.length := by omega
  have a0 : at_ (bodyOf p) 0 = 0 := rfl
  have a1 : at_ (bodyOf p) 1 = 0 := rfl
  have a2 : at_ (bodyOf p) 2 = 0 / 256 % 256 := rfl
  have a3 : at_ (bodyOf p) 3 = 0 % 256 := rfl
  have a4 : at_ (bodyOf p) 4 = 0 := rfl
  have a5 : at_ (bodyOf p) 5 = 0 := rfl
  have a6 : at_ (bodyOf p) 6 = p.Num / 256 % 256 := rfl
  have a7 : at_ (bodyOf p) 7 = p.Num % 256 := rfl
  have a8 : at_ (bodyOf p) 8 = if p.Last = true then 1 else 0 := rfl
  have e9 : sub (bodyOf p) 9 ((bodyOf p).length : Int) = p.Data := by rw [sub_end]; rfl
  have fl : ∀ k, shutterref22_Read.l1.m KK (bodyOf p) (k + 1 + 1 + 1 + 1 + 1) 0 0 0 = some (0, p.Num) := by
    intro k
    simp only [shutterref22_Read.l1.m, L9, show w64 (0 + 1) = 1 from by decide, show w64 (1 + 1) = 2 from by decide, show w64 (2 + 1) = 3 from by decide, show w64 (3 + 1) = 4 from by decide,
      show w64 (4 + 0) = 4 from by decide, show w64 (4 + 1) = 5 from by decide, show w64 (4 + 2) = 6 from by decide, show w64 (4 + 3) = 7 from by decide, a0, a1, a2, a3, a4, a5, a6, a7,
      show (0 : Int) < 4 ↔ True from by decide, show (1 : Int) < 4 ↔ True from by decide, show (2 : Int) < 4 ↔ True from by decide, show (3 : Int) < 4 ↔ True from by decide, show (4 : Int) < 4 ↔ False from by decide, if_true, if_false,
      show (0 : Int) ≤ 0 ↔ True from by decide, show (0 : Int) ≤ 1 ↔ True from by decide, show (0 : Int) ≤ 2 ↔ True from by decide, show (0 : Int) ≤ 3 ↔ True from by decide, show (0 : Int) ≤ 4 ↔ True from by decide, show (0 : Int) ≤ 5 ↔ True from by decide, show (0 : Int) ≤ 6 ↔ True from by decide, show (0 : Int) ≤ 7 ↔ True from by decide,
      show w64 (w64 (256 * 0) + w64 0) = 0 from by decide, show (0 : Int) / 256 % 256 = 0 from by decide, show (0 : Int) % 256 = 0 from by decide]
    rw [if_pos (by omega), if_pos (by omega), if_pos (by omega), if_pos (by omega), if_pos (by omega), if_pos (by omega), if_pos (by omega), if_pos (by omega)]
    rw [show w64 (256 * 0) = 0 from by decide, w64_id (n := p.Num / 256 % 256) (by omega) (by omega), w64_id (n := p.Num % 256) (by omega) (by omega), w64_id (n := 0 + p.Num / 256 % 256) (by omega) (by omega), w64_id (n := 256 * (0 + p.Num / 256 % 256)) (by omega) (by omega), w64_id (by omega) (by omega)]
    congr 2
    omega
  have el : shutterref22_Read.l1.m KK (bodyOf p) KK 0 0 0 = some (0, p.Num) := fl 1048571
  have may : ∀ b : Bool, b = p.Last → shutterref22_May.m ⟨0, p.Num, b, p.Data⟩ = some true := by
    rintro b rfl
    unfold shutterref22_May.m
    simp only
    rw [if_neg (by decide), if_neg (by decide), if_neg (by omega), if_neg (by omega), if_neg (by omega), if_pos (by omega), if_pos (by omega)]
    rcases h.2.2.2 with e | ⟨e1, _, _⟩
    · cases p.Last with
      | true => rfl
      | false => rw [cond_false, e]; rfl
    · rw [e1]; rfl
  have hb : ((if p.Last = true then (1 : Int) else 0) == 1) = p.Last := by cases p.Last <;> rfl
  have c8 : (8 : Int) < ((bodyOf p).length : Int) := by omega
  have c9 : (9 : Int) ≤ ((bodyOf p).length : Int) := by omega
  have ea : app [] p.Data = some p.Data := by rw [appk (by simp; omega)]; rfl
  unfold shutterref22_Read.m
  rw [if_neg (by omega)]
  simp only [letJ, c8, c9, if_true, e9, ea, Option.bind_some, el, a8, hb, may p.Last rfl, cond_true]
  refine ⟨⟨0, p.Num, p.Last, p.Data⟩, ?_⟩
  cases p.Last <;> rfl
end Go.Proofs.YtjkbhpokboolpaaGreatDoor.Sx
