import Derived.Test.YtjkbhpokboolpaaGreatDoorKU
namespace Go.Proofs.YtjkbhpokboolpaaGreatDoor.Sx
open Go
set_option maxRecDepth 100000
set_option maxHeartbeats 4000000
def okD (p : api_Pack) : Prop := (∀ y ∈ p.Data, Wf .u8 y) ∧ (p.Data.length = 64 ∨ (p.Last = true ∧ 1 ≤ p.Data.length ∧ p.Data.length < 64))
def okP (p : api_Pack) : Prop := 1 ≤ p.Num ∧ p.Num ≤ 1000 ∧ okD p
theorem clone_b {l : List Int} (h : l.length ≤ 100000) : slices_Clone_bytes.m l = some l := by
  unfold slices_Clone_bytes.m
  rw [appk (by simp; omega)]; rfl
theorem sub_u8 {x : List Int} (w : ∀ y ∈ x, Wf .u8 y) (i j : Int) : ∀ y ∈ sub x i j, Wf .u8 y := fun y hy => by
  unfold sub at hy
  exact w y (List.mem_of_mem_drop (List.mem_of_mem_take hy))
theorem cut_l {x : List Int} (w : ∀ y ∈ x, Wf .u8 y) (hx : x.length ≤ 8192) : ∀ (k : Nat) (i : Int) (acc : List api_Pack), 0 ≤ i → i < (x.length : Int) → (x.length : Int) - i ≤ 64 * k → acc.length ≤ i →
    ∃ (ps : List api_Pack) (p : api_Pack), piece_Cut.l1.m KK x (chX 64 x.length k i) acc = some (acc ++ (ps ++ [p])) ∧ (∀ q ∈ ps, okD q) ∧ (∀ y ∈ p.Data, Wf .u8 y) ∧ 1 ≤ p.Data.length ∧ p.Data.length ≤ 64 ∧ 64 * (ps.length : Int) < (x.length : Int) - i := by
  intro k
  induction k with
  | zero => intro i acc _ _ h; omega
  | succ k ih =>
    intro i acc i0 i1 hk ha
    have hm : mn 64 ((x.length : Int) - i) ≤ 64 ∧ mn 64 ((x.length : Int) - i) ≤ (x.length : Int) - i ∧ (mn 64 ((x.length : Int) - i) = 64 ∨ mn 64 ((x.length : Int) - i) = (x.length : Int) - i) := by
      unfold mn; split <;> omega
    generalize hmn : mn 64 ((x.length : Int) - i) = d at hm
    have hsl : (sub x i (i + d)).length = d.toNat := by
      rw [sub_length (by omega)]; omega
    unfold chX
    rw [if_pos i1, piece_Cut.l1.m]
    unfold chE
    rw [hmn, clone_b (by omega), Option.bind_some, appk (by simp; omega), Option.bind_some]
    by_cases h : (x.length : Int) ≤ i + 64
    · have e : chX 64 x.length k (i + 64) = [] := by
        cases k with
        | zero => rfl
        | succ k => unfold chX; rw [if_neg (by omega)]
      rw [e, piece_Cut.l1.m]
      refine ⟨[], _, rfl, (by simp), sub_u8 w _ _, ?_, ?_, ?_⟩
      · show 1 ≤ (sub x i (i + d)).length; omega
      · show (sub x i (i + d)).length ≤ 64; omega
      · simp; omega
    · obtain ⟨ps, p, e, h1, h2, h3, h4, h5⟩ := ih (i + 64) (acc ++ [⟨0, w64 ((acc.length : Int) + 1), false, sub x i (i + d)⟩]) (by omega) (by omega) (by omega) (by simp; omega)
      refine ⟨⟨0, w64 ((acc.length : Int) + 1), false, sub x i (i + d)⟩ :: ps, p, ?_, ?_, h2, h3, h4, ?_⟩
      · rw [e]; simp
      · intro q hq
        rcases List.mem_cons.1 hq with rfl | hq
        · exact ⟨sub_u8 w _ _, .inl (by show (sub x i (i + d)).length = 64; omega)⟩
        · exact h1 q hq
      · simp only [List.length_cons]; omega
theorem cut_eq {x : List Int} (w : ∀ y ∈ x, Wf .u8 y) (h0 : 1 ≤ x.length) (hx : x.length ≤ 8192) :
    ∃ ps : List api_Pack, piece_Cut.m KK x = some (ps, .nil) ∧ (∀ q ∈ ps, okD q) ∧ 64 * ((ps.length : Int) - 1) < (x.length : Int) ∧ 1 ≤ ps.length := by
  obtain ⟨ps, p, e, h1, h2, h3, h4, h5⟩ := cut_l w hx x.length 0 [] (by omega) (by omega) (by omega) (by simp)
  have hb : 64 * (ps.length : Int) < (x.length : Int) := by omega
  refine ⟨ps ++ [⟨p.Ack, p.Num, true, p.Data⟩], ?_, ?_, ?_, ?_⟩
  · unfold piece_Cut.m slices_Chunk_bytes.m
    rw [if_neg (by omega), if_neg (by omega), if_pos ⟨by decide, by decide, by omega⟩, Option.bind_some, e, Option.bind_some, List.nil_append]
    have hl : w64 (((ps ++ [p]).length : Int) - 1) = (ps.length : Int) := by
      rw [List.length_append, List.length_singleton, w64_id (by omega) (by omega)]; omega
    rw [hl, if_pos (by omega), if_pos (by simp only [List.length_append, List.length_singleton]; omega), at_last rfl, set_last rfl]
  · intro q hq
    rcases List.mem_append.1 hq with hq | hq
    · exact h1 q hq
    · obtain rfl := List.mem_singleton.1 hq
      refine ⟨h2, ?_⟩
      by_cases h64 : p.Data.length = 64
      · exact .inl h64
      · exact .inr ⟨rfl, h3, by show p.Data.length < 64; omega⟩
  · simp only [List.length_append, List.length_singleton]; omega
  · simp
structure LN (l : line_Line) : Prop where
  q : ∀ p ∈ l.queue', okP p
  len : l.queue'.length ≤ 200
  giv : l.given' = (l.queue'.length : Int)
  aw : l.await' = 1
  ow : l.owes' = false
  w0 : 0 ≤ l.wait'
  w1 : l.wait' ≤ 100
  f0 : 0 ≤ l.left'
  f1 : l.left' ≤ 100
theorem send_l {t : List api_Pack × GoErr} (ht : ∀ q ∈ t.1, okD q) (hb : t.1.length ≤ 1000) : ∀ (k : Nat) (i : Int) (q : List api_Pack) (g : Int), 0 ≤ i → i ≤ (t.1.length : Int) → (t.1.length : Int) - i < k → g = (q.length : Int) → (∀ p ∈ q, okP p) → (q.length : Int) + ((t.1.length : Int) - i) ≤ 200 →
    ∃ q' g', line_Line_Send.l1.m KK t k i q g = some (q', g') ∧ g' = (q'.length : Int) ∧ (∀ p ∈ q', okP p) ∧ (q'.length : Int) = (q.length : Int) + ((t.1.length : Int) - i) := by
  intro k
  induction k with
  | zero => intro i q g _ _ h; omega
  | succ k ih =>
    intro i q g i0 i1 hk hg hq hs
    rw [line_Line_Send.l1.m]
    simp only [letJ]
    by_cases h3 : i < (t.1.length : Int)
    · have hD := ht _ (at_in i0 h3)
      have hg' : w64 (g + 1) = g + 1 := w64_id (by omega) (by omega)
      rw [if_pos h3, cond_true, if_pos i0, if_pos h3, appk (by simp; omega), Option.bind_some, w64_id (n := i + 1) (by omega) (by omega), hg']
      obtain ⟨q', g', e, h1, h2, h4⟩ := ih (i + 1) (q ++ [⟨(at_ t.1 i).Ack, g + 1, (at_ t.1 i).Last, (at_ t.1 i).Data⟩]) (g + 1) (by omega) (by omega) (by omega) (by simp; omega) (fun p hp => by
        rcases List.mem_append.1 hp with hp | hp
        · exact hq p hp
        · obtain rfl := List.mem_singleton.1 hp
          exact ⟨by show 1 ≤ g + 1; omega, by show g + 1 ≤ 1000; omega, hD⟩) (by simp; omega)
      exact ⟨q', g', e, h1, h2, by rw [h4]; simp; omega⟩
    · rw [if_neg h3, cond_false]
      exact ⟨q, g, rfl, hg, hq, by omega⟩
theorem send_one {l : line_Line} (L : LN l) {x : List Int} (w : ∀ y ∈ x, Wf .u8 y) (h0 : 1 ≤ x.length) (hx : x.length ≤ 64) (hq : l.queue'.length < 200) :
    ∃ l', line_Line_Send.m KK l x = some (.nil, l') ∧ LN l' ∧ l'.queue'.length = l.queue'.length + 1 := by
  obtain ⟨ps, ec, h1, h2, h3⟩ := cut_eq w h0 (by omega)
  have hl := L.len
  unfold line_Line_Send.m
  rw [ec, Option.bind_some, if_pos rfl]
  unfold line_Line_room.m
  simp only [Option.bind_some]
  rw [w64_id (n := 200 - (l.queue'.length : Int)) (by omega) (by omega), decide_eq_true (show (ps.length : Int) ≤ 200 - (l.queue'.length : Int) by omega), cond_true]
  obtain ⟨q', g', e, k1, k2, k3⟩ := send_l (t := (ps, .nil)) h1 (by simp only; omega) KK 0 l.queue' l.given' (by omega) (by simp) (by simp only; unfold KK; omega) L.giv L.q (by simp only; omega)
  have k3' : (q'.length : Int) = (l.queue'.length : Int) + (ps.length : Int) := by rw [k3]; simp
  unfold line_Line_now.m
  simp only [letJ, Option.bind_some, e]
  split
  · exact ⟨_, rfl, ⟨k2, by show q'.length ≤ 200; omega, k1, L.aw, L.ow, by show (0 : Int) ≤ 1; omega, by show (1 : Int) ≤ 100; omega, by show (0 : Int) ≤ 0; omega, by show (0 : Int) ≤ 100; omega⟩, by show q'.length = _; omega⟩
  · exact ⟨_, rfl, ⟨k2, by show q'.length ≤ 200; omega, k1, L.aw, L.ow, L.w0, L.w1, L.f0, L.f1⟩, by show q'.length = _; omega⟩
end Go.Proofs.YtjkbhpokboolpaaGreatDoor.Sx
