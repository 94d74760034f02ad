import Derived.Test.YtjkbhpokboolpaaGreatDoorPR
namespace Go.Proofs.YtjkbhpokboolpaaGreatDoor.Sx
open Go
set_option maxRecDepth 100000
theorem appN {α : Type} {l m : List α} (h : l.length + m.length ≤ 1099511627776) : app l m = some (l ++ m) := by unfold app; rw [if_pos (by unfold Lim; omega)]
abbrev zCN : api_Cell := ⟨false, ⟨false, false, 0, false⟩, 0⟩
theorem same10_loopN {s : api_Screen} (hl : s.Cells.length ≤ 20000) : ∀ (k : Nat) (i : Int), 0 ≤ i → 0 < k → (s.Cells.length : Int) - i < k → shutterref10_Same.l1.m KK s s k i = some (.inr ())
  | 0, _, _, h, _ => absurd h (by omega)
  | k + 1, i, h0, _, h1 => by
    unfold shutterref10_Same.l1.m
    by_cases h : i < (s.Cells.length : Int)
    · rw [if_pos h, if_pos h0, if_pos h]
      simp only [beq_self_eq_true, Bool.and_self, cond_true, Bool.true_and, Bool.and_true]
      rw [w64_id (by omega) (by omega)]
      exact same10_loopN hl k (i + 1) (by omega) (by omega) (by omega)
    · rw [if_neg h]
theorem same10_reflN {s : api_Screen} (hl : s.Cells.length ≤ 20000) : shutterref10_Same.m KK s s = some true := by
  unfold shutterref10_Same.m
  simp only [if_true, bne_self_eq_false, cond_false]
  rw [same10_loopN hl KK 0 (by omega) (by unfold KK; omega) (by unfold KK; omega), Option.bind_some]
theorem sizedN {x y : Int} (b1 : Wf .i64 x) (b2 : Wf .i64 y) : (shutterref10_Sized.m x y = some true ∧ 1 ≤ x ∧ 1 ≤ y ∧ x ≤ 16383 ∧ y ≤ 16383 ∧ x * y ≤ 16383) ∨ (shutterref10_Sized.m x y = some false ∧ (x < 1 ∨ y < 1 ∨ 16383 < x ∨ 16383 < x * y)) := by
  unfold shutterref10_Sized.m
  by_cases h1 : x ≥ 1
  · by_cases h2 : y ≥ 1
    · by_cases h3 : x ≤ 16383
      · by_cases h4 : y ≤ 16383
        · rw [if_pos h1, if_pos h2, if_pos h3, if_pos h4]
          have hxy : 0 ≤ x * y := Int.mul_nonneg (by omega) (by omega)
          have hxy2 : x * y ≤ 16383 * 16383 := Int.mul_le_mul h3 h4 (by omega) (by omega)
          rw [w64_id (by omega) (by omega)]
          by_cases h5 : x * y ≤ 16383
          · left; exact ⟨by rw [decide_eq_true h5], h1, h2, h3, h4, h5⟩
          · right; exact ⟨by rw [decide_eq_false h5], .inr (.inr (.inr (by omega)))⟩
        · rw [if_pos h1, if_pos h2, if_pos h3, if_neg h4]
          right
          refine ⟨rfl, .inr (.inr (.inr ?_))⟩
          have : 1 * y ≤ x * y := Int.mul_le_mul_of_nonneg_right h1 (by omega)
          omega
      · rw [if_pos h1, if_pos h2, if_neg h3]; right; exact ⟨rfl, by omega⟩
    · rw [if_pos h1, if_neg h2]; right; exact ⟨rfl, by omega⟩
  · rw [if_neg h1]; right; exact ⟨rfl, by omega⟩
theorem gridNew_no {x y : Int} (h : x < 1 ∨ y < 1 ∨ 16383 < x ∨ 16383 < x * y) : ∃ s, grid_New.m x y = some (s, .no 1) := by
  unfold grid_New.m
  by_cases h1 : x < 1
  · rw [if_pos h1]; exact ⟨_, rfl⟩
  · by_cases h2 : y < 1
    · rw [if_neg h1, if_pos h2]; exact ⟨_, rfl⟩
    · by_cases h3 : x > 16383
      · rw [if_neg h1, if_neg h2, if_pos h3]; exact ⟨_, rfl⟩
      · rw [if_neg h1, if_neg h2, if_neg h3, if_pos (by omega)]
        have hq : 16383 / x ≤ 16383 := Int.ediv_le_self _ (by omega)
        have hq0 : 0 ≤ 16383 / x := Int.ediv_nonneg (by omega) (by omega)
        rw [Int.tdiv_eq_ediv_of_nonneg (by omega), w64_id (by omega) (by omega), if_pos ?_]
        · exact ⟨_, rfl⟩
        · have : ¬ y ≤ 16383 / x := fun hy => by
            have := Int.mul_le_of_le_ediv (c := x) (by omega) hy
            rw [Int.mul_comm] at this
            omega
          omega
theorem gridNew_ok {x y : Int} (h1 : 1 ≤ x) (h2 : 1 ≤ y) (h3 : x ≤ 16383) (h5 : x * y ≤ 16383) : grid_New.m x y = some (⟨x, y, List.replicate (x * y).toNat zCN, 0, false, false⟩, .nil) := by
  unfold grid_New.m
  have hxy : 0 ≤ x * y := Int.mul_nonneg (by omega) (by omega)
  have hq : 16383 / x ≤ 16383 := Int.ediv_le_self _ (by omega)
  have hq0 : 0 ≤ 16383 / x := Int.ediv_nonneg (by omega) (by omega)
  have hy : y ≤ 16383 / x := (Int.le_ediv_iff_mul_le (by omega)).2 (by rw [Int.mul_comm]; exact h5)
  rw [if_neg (by omega), if_neg (by omega), if_neg (by omega), if_pos (by omega), Int.tdiv_eq_ediv_of_nonneg (by omega), w64_id (by omega) (by omega), if_neg (by omega), w64_id (by omega) (by omega)]
  unfold mk
  rw [if_pos ⟨hxy, by unfold Lim; omega⟩]
  rfl
theorem refNewN {x y : Int} (h1 : 1 ≤ x) (h2 : 1 ≤ y) (h5 : x * y ≤ 16383) : shutterref25_New.m x y = some ⟨⟨x, y, List.replicate (x * y).toNat zCN, 0, false, false⟩, []⟩ := by
  unfold shutterref25_New.m
  have hxy : 0 ≤ x * y := Int.mul_nonneg (by omega) (by omega)
  rw [w64_id (by omega) (by omega)]
  unfold mk
  rw [if_pos ⟨hxy, by unfold Lim; omega⟩]
  rfl
theorem madeN {k : List Int} {d : Int} (hk : k.length ≤ 1000) (hd : d = 0 ∨ d = 1) : side_made.m k d = some ⟨k, ⟨k, 1 - d, ⟨0, 0⟩, ⟨⟨#[]⟩, 0⟩⟩, ⟨[], 0, 1, [], [], 1, 0, false⟩, d, 0⟩ := by
  unfold side_made.m slices_Clone_bytes.m line_New.m
  rw [appN (by simp; omega)]
  simp only [Option.bind_some, List.nil_append]
  rw [w64_id (by omega) (by omega)]
abbrev sideN (k : List Int) (d : Int) : side_side := ⟨k, ⟨k, 1 - d, ⟨0, 0⟩, ⟨⟨#[]⟩, 0⟩⟩, ⟨[], 0, 1, [], [], 1, 0, false⟩, d, 0⟩
theorem clientN_ok {k : List Int} {x y : Int} (hk : k.length ≤ 1000) (h1 : 1 ≤ x) (h2 : 1 ≤ y) (h3 : x ≤ 16383) (h5 : x * y ≤ 2000) :
    side_NewClient.m k x y = some (some ⟨sideN k 0, ⟨x, y, List.replicate (x * y).toNat zCN, 0, false, false⟩, [], [], []⟩, .nil) := by
  unfold side_NewClient.m
  have hxy : 0 ≤ x * y := Int.mul_nonneg (by omega) (by omega)
  rw [gridNew_ok h1 h2 h3 (by omega), Option.bind_some]
  simp only [if_true]
  unfold grid_Size.m
  simp only [Option.bind_some, List.length_replicate]
  rw [if_neg (by omega), madeN hk (.inl rfl), Option.bind_some]
theorem clientN_no {k : List Int} {x y : Int} (h : (x < 1 ∨ y < 1 ∨ 16383 < x ∨ 16383 < x * y) ∨ (1 ≤ x ∧ 1 ≤ y ∧ x ≤ 16383 ∧ x * y ≤ 16383 ∧ 2000 < x * y)) : side_NewClient.m k x y = some (none, .no 1) := by
  unfold side_NewClient.m
  rcases h with h | ⟨h1, h2, h3, h4, h5⟩
  · obtain ⟨s, e⟩ := gridNew_no h
    rw [e, Option.bind_some]
    rfl
  · rw [gridNew_ok h1 h2 h3 h4, Option.bind_some]
    simp only [if_true]
    unfold grid_Size.m
    simp only [Option.bind_some, List.length_replicate]
    rw [if_pos (by omega)]
theorem codeN1 : api_Code.m (.no 1) = some 1 := by kernel_rfl
theorem textsN : side_texts.m KK [] = some [] := by kernel_rfl
theorem sentN {c : side_Client} (h : c.sent' = []) : side_Client_Sent.m KK c = some ([], c) := by
  unfold side_Client_Sent.m; rw [h, textsN]; rfl
theorem eventsN0 : ∃ t, slices_Clone_api_Event.m [] = some t ∧ side_Client_Events.l1.m KK t KK t 0 = some [] := ⟨[], by kernel_rfl, by kernel_rfl⟩
theorem eventsN {c : side_Client} (h : c.events' = []) : side_Client_Events.m KK c = some ([], c) := by
  obtain ⟨t, e1, e2⟩ := eventsN0
  unfold side_Client_Events.m; rw [h, e1, Option.bind_some, e2]; rfl
theorem SideNews_of (aw : shutterlaw25_awake.m KK = some true) (x y : Int) (b1 : Wf .i64 x) (b2 : Wf .i64 y) : shutterlaw25_SideNews.m KK x y = some true := by
  unfold shutterlaw25_SideNews.m
  rcases sizedN b1 b2 with ⟨e, h1, h2, h3, h4, h5⟩ | ⟨e, h⟩
  · have hxy : 0 ≤ x * y := Int.mul_nonneg (by omega) (by omega)
    by_cases h6 : x * y ≤ 2000
    · rw [clientN_ok (by decide) h1 h2 h3 h6, Option.bind_some]
      simp only [mcase, aw, Option.bind_some, cond_true, e]
      rw [w64_id (by omega) (by omega), if_neg (by omega)]
      simp only [if_true]
      unfold side_Client_Screen.m grid_Copy.m slices_Clone_api_Cell.m
      simp only [Option.bind_some]
      rw [appN (by simp; omega)]
      simp only [Option.bind_some, List.nil_append, refNewN h1 h2 (by omega)]
      rw [same10_reflN (by simp; omega), Option.bind_some]
      simp only [cond_true]
      rw [sentN rfl, Option.bind_some]
      rw [if_pos (by simp), eventsN rfl, Option.bind_some, if_pos (by simp)]
      rfl
    · rw [clientN_no (.inr ⟨h1, h2, h3, h5, by omega⟩), Option.bind_some]
      simp only [mcase, aw, Option.bind_some, cond_true, e]
      rw [w64_id (by omega) (by omega), if_pos (by omega), codeN1]
      rfl
  · rw [clientN_no (.inl h), Option.bind_some]
    simp only [mcase, aw, Option.bind_some, cond_true, e, cond_false]
    rw [codeN1]
    rfl
end Go.Proofs.YtjkbhpokboolpaaGreatDoor.Sx
