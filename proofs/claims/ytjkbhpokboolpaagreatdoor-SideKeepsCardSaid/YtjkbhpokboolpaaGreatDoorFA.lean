import Derived.Test.YtjkbhpokboolpaaGreatDoorPR
namespace Go.Proofs.YtjkbhpokboolpaaGreatDoor.Sx
open Go
set_option maxRecDepth 100000
def sb (q i : Int) : Int := IntKind.u8.wrap (shr .i64 q (56 - 8 * i))
def sbs (q : Int) : Nat → Int → List Int
  | 0, _ => []
  | m + 1, i => sb q i :: sbs q m (i + 1)
theorem sbs_len (q : Int) : ∀ m i, (sbs q m i).length = m
  | 0, _ => rfl
  | m + 1, i => by unfold sbs; rw [List.length_cons, sbs_len q m]
theorem sbs_wf (q : Int) : ∀ m i, ∀ y ∈ sbs q m i, Wf .u8 y
  | 0, _, y, h => by cases h
  | m + 1, i, y, h => by
    unfold sbs at h
    rcases List.mem_cons.1 h with rfl | h
    · exact wf_wrap8 _
    · exact sbs_wf q m _ y h
def txt (f : api_Frame) : List Int := 1 :: IntKind.u8.wrap f.Dir :: (sbs f.Seq 8 0 ++ f.Body)
def sealT (k : List Int) (f : api_Frame) : List Int := txt f ++ sub (hmac k (txt f)) 0 16
def okF (f : api_Frame) : Prop := (f.Dir = 0 ∨ f.Dir = 1) ∧ 1 ≤ f.Seq ∧ f.Seq ≤ 4611686018427387904
instance (f : api_Frame) : Decidable (okF f) := by unfold okF; exact inferInstance
def sealF (k : List Int) (f : api_Frame) : List Int × GoErr :=
  if okF f then (if f.Body.length > 486 then ([], .no 6) else (sealT k f, .nil)) else ([], .no 1)
theorem txt_wf {f : api_Frame} (wb : ∀ y ∈ f.Body, Wf .u8 y) : ∀ y ∈ txt f, Wf .u8 y := by
  intro y hy
  unfold txt at hy
  rcases List.mem_cons.1 hy with rfl | hy
  · exact wf_num (by omega) (by omega)
  · rcases List.mem_cons.1 hy with rfl | hy
    · exact wf_wrap8 _
    · exact bytes_app (sbs_wf _ _ _) wb y hy
theorem txt_len (f : api_Frame) : (txt f).length = 10 + f.Body.length := by
  unfold txt; rw [List.length_cons, List.length_cons, List.length_append, sbs_len]; omega
theorem tag_len {k t : List Int} (wk : ∀ y ∈ k, Wf .u8 y) (wt : ∀ y ∈ t, Wf .u8 y) : (sub (hmac k t) 0 16).length = 16 := by
  have := (hmac_ok wk wt).1
  rw [sub_length (by omega)]; rfl
theorem sub_ok {l : List Int} (wl : ∀ y ∈ l, Wf .u8 y) (lo hi : Int) : ∀ y ∈ sub l lo hi, Wf .u8 y := fun y hy => by
  unfold sub at hy; exact wl y (List.mem_of_mem_drop (List.mem_of_mem_take hy))
theorem sealT_ok {k : List Int} {f : api_Frame} (wk : ∀ y ∈ k, Wf .u8 y) (wb : ∀ y ∈ f.Body, Wf .u8 y) : (sealT k f).length = 26 + f.Body.length ∧ ∀ y ∈ sealT k f, Wf .u8 y := by
  unfold sealT
  have w := txt_wf wb
  refine ⟨by rw [List.length_append, tag_len wk w, txt_len]; omega, bytes_app w (sub_ok (hmac_ok wk w).2 _ _)⟩
theorem seal_prog {f : api_Frame} : ∀ (k : Nat) (x : List Int) (i : Int), 0 ≤ i → i ≤ 8 → 8 - i < (k : Int) → x.length ≤ 1000 + i.toNat →
    frame_Seal.l1.m KK f k x i = some (x ++ sbs f.Seq (8 - i).toNat i) := by
  intro k
  induction k with
  | zero => intro x i _ _ h; omega
  | succ k ih =>
    intro x i i0 i1 hk hx
    rw [frame_Seal.l1.m]
    simp only [letJ]
    by_cases h3 : i < 8
    · have q : w64 (8 * i) = 8 * i := w64_id (by omega) (by omega)
      have q2 : w64 (56 - 8 * i) = 56 - 8 * i := w64_id (by omega) (by omega)
      rw [if_pos h3, cond_true, q, q2, if_pos (by omega), app_okU (by simp; omega), Option.bind_some, w64_id (n := i + 1) (by omega) (by omega), ih _ (i + 1) (by omega) (by omega) (by omega) (by simp; omega),
        show (8 - i).toNat = (8 - (i + 1)).toNat + 1 by omega]
      conv => rhs; unfold sbs
      rw [List.append_assoc]; rfl
    · rw [if_neg h3, cond_false, show (8 - i).toNat = 0 by omega]
      unfold sbs; simp
theorem seal_eq {k : List Int} {f : api_Frame} (hk : k.length ≤ 1000) (wk : ∀ y ∈ k, Wf .u8 y) (wb : ∀ y ∈ f.Body, Wf .u8 y) : frame_Seal.m KK k f = some (sealF k f) := by
  unfold frame_Seal.m frame_sided.m frame_numbered.m sealF
  simp only [letJ]
  have yes : okF f → (if (f.Body.length : Int) > 486 then (some ([], (GoErr.no 6))) else ((frame_Seal.l1.m KK f KK [1, (IntKind.u8.wrap (f.Dir))] 0).bind fun x44 => ((app x44 f.Body).bind fun l63 => ((mac_Tag.m KK k [l63]).bind fun t70 => ((app l63 t70).bind fun l74 => (some (l74, GoErr.nil))))))) = some (if f.Body.length > 486 then (([] : List Int), GoErr.no 6) else (sealT k f, .nil)) := by
    intro _
    by_cases hb : f.Body.length > 486
    · rw [if_pos (by omega), if_pos hb]
    · rw [if_neg (by omega), if_neg hb, seal_prog KK _ 0 (by omega) (by omega) (by unfold KK; omega) (by simp), Option.bind_some, app_okU (by simp [sbs_len]; omega), Option.bind_some]
      have e : [1, IntKind.u8.wrap f.Dir] ++ sbs f.Seq (8 - (0 : Int)).toNat 0 ++ f.Body = txt f := by unfold txt; simp
      have fl : [txt f].flatten = txt f := by simp
      have tl := txt_len f
      rw [e, tag_eq (by omega) wk (by simp) (by rw [fl]; omega) (by rw [fl]; exact txt_wf wb), Option.bind_some, fl, app_okU (by rw [tag_len wk (txt_wf wb)]; omega), Option.bind_some]
      rfl
  by_cases ok : okF f
  · rw [if_pos ok]
    obtain ⟨hd, h1, h2⟩ := ok
    have hn : (if f.Seq ≥ 1 then (some (decide (f.Seq ≤ 4611686018427387904))) else (some false)) = some true := by rw [if_pos h1, decide_eq_true h2]
    rcases hd with hd | hd
    · rw [hd, if_pos rfl, Option.bind_some, cond_true, hn, Option.bind_some, cond_true, cond_false]
      have := yes ⟨.inl hd, h1, h2⟩; rw [hd] at this; exact this
    · rw [hd, if_neg (by omega), Option.bind_some, show ((1 : Int) == 1) = true from rfl, cond_true, hn, Option.bind_some, cond_true, cond_false]
      have := yes ⟨.inr hd, h1, h2⟩; rw [hd] at this; exact this
  · rw [if_neg ok]
    by_cases hd : f.Dir = 0 ∨ f.Dir = 1
    · have hn : (if f.Seq ≥ 1 then (some (decide (f.Seq ≤ 4611686018427387904))) else (some false)) = some false := by
        by_cases h1 : f.Seq ≥ 1
        · rw [if_pos h1, decide_eq_false]; exact fun h2 => ok ⟨hd, h1, h2⟩
        · rw [if_neg h1]
      have hs : (if f.Dir = 0 then some true else some (f.Dir == 1)) = some true := by
        rcases hd with hd | hd
        · rw [if_pos hd]
        · rw [hd]; rfl
      rw [hs, Option.bind_some, cond_true, hn, Option.bind_some, cond_false, cond_true]
    · have hs : (if f.Dir = 0 then some true else some (f.Dir == 1)) = some false := by
        rw [if_neg (fun h => hd (.inl h))]; congr 1; exact beq_eq_false_iff_ne.2 (fun h => hd (.inr h))
      rw [hs, Option.bind_some, cond_false, cond_true]
def wrongOfF (f : api_Frame) : Int := if okF f then (if f.Body.length > 486 then 6 else 0) else 1
theorem wrong_eqF (f : api_Frame) : shutterref19_Wrong.m f = some (wrongOfF f) := by
  unfold shutterref19_Wrong.m wrongOfF
  have rest : (f.Dir = 0 ∨ f.Dir = 1) → (if f.Seq < 1 then (some 1) else (if f.Seq > 4611686018427387904 then (some 1) else (if (f.Body.length : Int) > 486 then (some 6) else (some 0)))) = some (if okF f then (if f.Body.length > 486 then (6 : Int) else 0) else 1) := by
    intro hd
    by_cases h1 : f.Seq < 1
    · have n : ¬ okF f := fun o => by have := o.2.1; omega
      rw [if_pos h1, if_neg n]
    · by_cases h2 : f.Seq > 4611686018427387904
      · have n : ¬ okF f := fun o => by have := o.2.2; omega
        rw [if_neg h1, if_pos h2, if_neg n]
      · have o : okF f := ⟨hd, by omega, by omega⟩
        rw [if_neg h1, if_neg h2, if_pos o]
        by_cases h3 : f.Body.length > 486
        · rw [if_pos (by omega), if_pos h3]
        · rw [if_neg (by omega), if_neg h3]
  by_cases h0 : f.Dir = 0
  · rw [if_pos h0]; exact rest (.inl h0)
  · rw [if_neg h0]
    by_cases h00 : f.Dir = 1
    · rw [if_pos h00]; exact rest (.inr h00)
    · have n : ¬ okF f := fun o => o.1.elim h0 h00
      rw [if_neg h00, if_neg n]
end Go.Proofs.YtjkbhpokboolpaaGreatDoor.Sx

namespace Go.Proofs.YtjkbhpokboolpaaGreatDoor.Sx
open Go
set_option maxRecDepth 100000
theorem shr64_nat {x n : Nat} (hn : n ≤ 64) : shr .i64 (x : Int) (n : Int) = ((x / 2 ^ n : Nat) : Int) := by
  unfold shr
  rw [Int.toNat_natCast, show min n IntKind.i64.bits = n from Nat.min_eq_left hn, pow_nat, Int.fdiv_eq_ediv_of_nonneg _ (Int.natCast_nonneg _), Int.natCast_ediv]
def fval : List Int → Int → Int
  | [], v => v
  | b :: l, v => fval l (v * 256 + b)
theorem up8 (z : Nat) : (((z / 256 : Nat) : Int)) * 256 + ((z % 256 : Nat) : Int) = ((z : Nat) : Int) := by omega
theorem sb_nat {q n : Nat} (i : Int) (h : 56 - 8 * i = (n : Int)) (hn : n ≤ 64) : sb (q : Int) i = ((q / 2 ^ n % 256 : Nat) : Int) := by
  unfold sb; rw [h, shr64_nat hn, wrap_u8]; generalize q / 2 ^ n = z; omega
theorem div8 (q n : Nat) : q / 2 ^ (n + 8) = q / 2 ^ n / 256 := by rw [Nat.pow_add, ← Nat.div_div_eq_div_mul]
theorem fval_sbs {q : Int} (h0 : 0 ≤ q) (h1 : q ≤ 4611686018427387904) : fval (sbs q 8 0) 0 = q := by
  obtain ⟨q, rfl⟩ := Int.eq_ofNat_of_zero_le h0
  have big : (2 : Nat) ^ (56 + 8) = 18446744073709551616 := by decide
  have top : q / 2 ^ 56 / 256 = 0 := by
    rw [← div8, big]; exact Nat.div_eq_of_lt (by omega)
  simp only [sbs, fval]
  rw [sb_nat (n := 56) 0 (by omega) (by omega), sb_nat (n := 48) (0 + 1) (by omega) (by omega), sb_nat (n := 40) (0 + 1 + 1) (by omega) (by omega), sb_nat (n := 32) (0 + 1 + 1 + 1) (by omega) (by omega), sb_nat (n := 24) (0 + 1 + 1 + 1 + 1) (by omega) (by omega),
    sb_nat (n := 16) (0 + 1 + 1 + 1 + 1 + 1) (by omega) (by omega), sb_nat (n := 8) (0 + 1 + 1 + 1 + 1 + 1 + 1) (by omega) (by omega), sb_nat (n := 0) (0 + 1 + 1 + 1 + 1 + 1 + 1 + 1) (by omega) (by omega)]
  have t0 : (0 : Int) * 256 = (((q / 2 ^ 56 / 256 : Nat) : Int)) * 256 := by rw [top]; rfl
  rw [t0, up8, div8 q 48, up8, div8 q 40, up8, div8 q 32, up8, div8 q 24, up8, div8 q 16, up8, div8 q 8, up8, div8 q 0, up8, Nat.pow_zero, Nat.div_one]
end Go.Proofs.YtjkbhpokboolpaaGreatDoor.Sx

namespace Go.Proofs.YtjkbhpokboolpaaGreatDoor.Sx
open Go
set_option maxRecDepth 100000
def zF : api_Frame := ⟨0, 0, []⟩
def tx (b : List Int) : List Int := b.take (b.length - 16)
def tg (b : List Int) : List Int := b.drop (b.length - 16)
def seqOf (b : List Int) : Int := fval (sub b 2 10) 0
def openF (k : List Int) (dir : Int) (b : List Int) : api_Frame × GoErr :=
  if b.length < 26 then (zF, .no 2) else if b.length > 512 then (zF, .no 6) else
  if sub (hmac k (tx b)) 0 16 = tg b then
    (if at_ b 0 = 1 ∧ at_ b 1 = dir then
      (if (1 ≤ seqOf b ∧ seqOf b ≤ 4611686018427387904) ∧ (dir = 0 ∨ dir = 1) then (⟨dir, seqOf b, (tx b).drop 10⟩, .nil) else (zF, .no 1))
    else (zF, .no 13))
  else (zF, .no 11)
theorem or_byte {v c : Nat} (hc : c < 256) : v * 256 ||| c = v * 256 + c := by
  have := Nat.two_pow_add_eq_or_of_lt (i := 8) (b := c) hc v
  rw [Nat.mul_comm] at this
  exact this.symm
theorem step64 {v c : Nat} (hv : v < 72057594037927936) (hc : c < 256) : bOr .u64 (shl .u64 (v : Int) 8) (IntKind.u64.wrap (c : Int)) = ((v * 256 + c : Nat) : Int) := by
  have e : shl .u64 (v : Int) 8 = ((v * 256 : Nat) : Int) := by
    unfold shl
    rw [show (2 : Int) ^ (min (8 : Int).toNat IntKind.u64.bits) = 256 from rfl, wrap_u64]; omega
  have e2 : IntKind.u64.wrap (c : Int) = (c : Int) := by rw [wrap_u64]; omega
  rw [e, e2]
  unfold bOr
  have h64 : (2 : Nat) ^ IntKind.u64.bits = 18446744073709551616 := by decide
  rw [BitVec.toNat_or, toNat_ofInt (by rw [h64]; omega), toNat_ofInt (by rw [h64]; omega), or_byte hc, wrap_u64]; omega
theorem fval_cons {l : List Int} {i : Nat} {v : Int} (h : i < l.length) : fval (l.drop i) v = fval (l.drop (i + 1)) (v * 256 + at_ l i) := by
  have := drop_at (l := l) (i := (i : Int)) (by omega) (by omega)
  rw [show ((i : Int)).toNat = i by omega, show ((i : Int) + 1).toNat = i + 1 by omega] at this
  rw [this]; rfl
theorem pow_up {i : Nat} (h : i ≤ 7) : 256 ^ i ≤ 72057594037927936 := by
  have := Nat.pow_le_pow_right (n := 256) (by omega) h
  exact Nat.le_trans this (by decide)
theorem open_loop {b : List Int} (wb : ∀ y ∈ b, Wf .u8 y) (hs : (sub (sub b 0 (w64 ((b.length : Int) - 16))) 2 10).length = 8) : ∀ (k v i : Nat), i ≤ 8 → 8 - i < k → v < 256 ^ i →
    frame_Open.l1.m KK b k (v : Int) (i : Int) = some (fval ((sub (sub b 0 (w64 ((b.length : Int) - 16))) 2 10).drop i) v) := by
  generalize hL : sub (sub b 0 (w64 ((b.length : Int) - 16))) 2 10 = l at hs
  have wl : ∀ y ∈ l, Wf .u8 y := by rw [← hL]; exact sub_ok (sub_ok wb _ _) _ _
  intro k
  induction k with
  | zero => intro v i _ h; omega
  | succ k ih =>
    intro v i h0 h1 hv
    rw [frame_Open.l1.m, hL]
    by_cases h3 : i < 8
    · have bb := b_u8 (wl _ (at_mem (l := l) (i := (i : Int)) (by omega) (by omega)))
      obtain ⟨c, hc⟩ : ∃ c : Nat, at_ l (i : Int) = (c : Int) := ⟨(at_ l (i : Int)).toNat, by omega⟩
      have hp := pow_up (i := i) (by omega)
      have hp1 : 256 ^ (i + 1) = 256 ^ i * 256 := Nat.pow_succ ..
      rw [if_pos (by omega), if_pos (by omega), fval_cons (by omega), hc, step64 (by omega) (by omega), w64_id (n := (i : Int) + 1) (by omega) (by omega)]
      have := ih (v * 256 + c) (i + 1) (by omega) (by omega) (by omega)
      rw [show (((i + 1 : Nat)) : Int) = (i : Int) + 1 by omega] at this
      rw [this]; congr 2
    · rw [if_neg (by omega), List.drop_eq_nil_of_le (by omega)]; rfl
theorem openref_loop {b : List Int} (wb : ∀ y ∈ b, Wf .u8 y) (hb : 10 ≤ b.length) (h64 : at_ b 2 ≤ 64) (hs : (sub b 2 10).length = 8) : ∀ (k v i : Nat), i ≤ 8 → 8 - i < k → v * 256 < 65 * 256 ^ i →
    shutterref19_Open.l1.m KK b k (v : Int) (2 + (i : Int)) = some (fval ((sub b 2 10).drop i) v) := by
  have ea : ∀ i : Nat, i < 8 → at_ (sub b 2 10) (i : Int) = at_ b (2 + (i : Int)) := fun i hi => by
    unfold at_ sub
    rw [show ((2 : Int) + (i : Int)).toNat = 2 + i by omega, show ((i : Int)).toNat = i by omega, show (10 : Int).toNat - (2 : Int).toNat = 8 from rfl, show (2 : Int).toNat = 2 from rfl]
    rw [List.getD_eq_getElem?_getD, List.getD_eq_getElem?_getD, List.getElem?_take_of_lt hi, List.getElem?_drop]
  intro k
  induction k with
  | zero => intro v i _ h; omega
  | succ k ih =>
    intro v i h0 h1 hv
    rw [shutterref19_Open.l1.m]
    by_cases h3 : i < 8
    · have bb := b_u8 (wb _ (at_mem (l := b) (i := 2 + (i : Int)) (by omega) (by omega)))
      have hc0 := ea i h3
      obtain ⟨c, hc⟩ : ∃ c : Nat, at_ b (2 + (i : Int)) = (c : Int) := ⟨(at_ b (2 + (i : Int))).toNat, by omega⟩
      have hp := pow_up (i := i) (by omega)
      have hp1 : 256 ^ (i + 1) = 256 ^ i * 256 := Nat.pow_succ ..
      have hv' : (v * 256 + c) * 256 < 65 * 256 ^ (i + 1) := by
        rcases i with _ | j
        · have : at_ b (2 + ((0 : Nat) : Int)) = at_ b 2 := rfl
          rw [this] at hc
          rw [Nat.pow_zero] at hv
          simp only [Nat.zero_add, Nat.pow_one]; omega
        · have hp2 : 256 ^ (j + 1) = 256 ^ j * 256 := Nat.pow_succ ..
          omega
      rw [if_pos (by omega), if_pos (by omega), if_pos (by omega), fval_cons (by omega), hc0, hc, w64_id (n := (v : Int) * 256) (by omega) (by omega), w64_id (n := (c : Int)) (by omega) (by omega),
        w64_id (n := (v : Int) * 256 + (c : Int)) (by omega) (by omega), w64_id (n := 2 + (i : Int) + 1) (by omega) (by omega)]
      have := ih (v * 256 + c) (i + 1) (by omega) (by omega) hv'
      rw [show 2 + (((i + 1 : Nat)) : Int) = 2 + (i : Int) + 1 by omega, show ((v * 256 + c : Nat) : Int) = (v : Int) * 256 + (c : Int) by omega] at this
      rw [this]
    · rw [if_neg (by omega), List.drop_eq_nil_of_le (by omega)]; rfl
theorem sub_tx {b : List Int} (h : 26 ≤ b.length) : sub (tx b) 2 10 = sub b 2 10 := by
  unfold sub tx
  rw [show (10 : Int).toNat - (2 : Int).toNat = 8 from rfl, show (2 : Int).toNat = 2 from rfl, List.drop_take, List.take_take, Nat.min_eq_left (by omega)]
theorem sub_tail {l : List Int} {n : Nat} : sub l (n : Int) (l.length : Int) = l.drop n := by
  unfold sub; simp only [Int.toNat_natCast]
  rw [List.take_of_length_le (by rw [List.length_drop]; exact Nat.le_refl _)]
theorem open_eq {k b : List Int} {dir : Int} (hk : k.length ≤ 1000) (wk : ∀ y ∈ k, Wf .u8 y) (wb : ∀ y ∈ b, Wf .u8 y) : frame_Open.m KK k dir b = some (openF k dir b) := by
  have key := open_loop (b := b) wb
  unfold frame_Open.m openF
  simp only [letJ]
  by_cases h1 : b.length < 26
  · rw [if_pos (by omega), cond_true, if_pos h1]; rfl
  rw [if_neg (show ¬ (b.length : Int) < 26 by omega), cond_false, if_neg h1]
  by_cases h2 : b.length > 512
  · rw [if_pos (by omega), if_pos h2]; rfl
  have n16 : w64 ((b.length : Int) - 16) = ((b.length - 16 : Nat) : Int) := by rw [w64_id (by omega) (by omega)]; omega
  have wt : ∀ y ∈ tx b, Wf .u8 y := fun y hy => wb y (List.mem_of_mem_take hy)
  have wg : ∀ y ∈ tg b, Wf .u8 y := fun y hy => wb y (List.mem_of_mem_drop hy)
  have tl : (tx b).length = b.length - 16 := by unfold tx; rw [List.length_take]; omega
  have fl : [tx b].flatten = tx b := by simp
  have e0 : sub b 0 ((b.length - 16 : Nat) : Int) = tx b := sub_takeW (by omega)
  have e1 : sub b ((b.length - 16 : Nat) : Int) (b.length : Int) = tg b := sub_drop (by omega)
  have s8 : (sub b 2 10).length = 8 := by rw [sub_length (by omega)]; rfl
  have a0 : at_ (tx b) 0 = at_ b 0 := at_take (by omega) (by omega)
  have a1 : at_ (tx b) 1 = at_ b 1 := at_take (by omega) (by omega)
  have b1 := b_u8 (wb _ (at_mem (l := b) (i := 1) (by omega) (by omega)))
  rw [n16, e0, sub_tx (by omega)] at key
  have lp := key s8 KK 0 0 (by omega) (by unfold KK; omega) (by decide)
  rw [List.drop_zero] at lp
  have lp' : frame_Open.l1.m KK b KK 0 0 = some (seqOf b) := lp
  rw [if_neg (by omega), if_neg h2, n16, if_pos (by omega), if_pos (by omega), e0, e1, tag_eq (by omega) wk (by simp) (by rw [fl]; omega) (by rw [fl]; exact wt), Option.bind_some, fl,
    equal_eq (by rw [tag_len wk wt]; omega) (sub_ok (hmac_ok wk wt).2 _ _) wg, Option.bind_some]
  by_cases h3 : sub (hmac k (tx b)) 0 16 = tg b
  · rw [if_pos h3, h3, beq_self_eq_true, cond_true, if_pos (by omega), a0, a1]
    by_cases c0 : at_ b 0 = 1
    · rw [if_pos c0, if_pos (by omega), w64_id (by omega) (by omega)]
      by_cases c1 : at_ b 1 = dir
      · rw [if_pos c1, if_pos (by omega), lp', Option.bind_some, if_pos (show at_ b 0 = 1 ∧ at_ b 1 = dir from ⟨c0, c1⟩)]
        by_cases q1 : seqOf b < 1
        · rw [if_pos q1, if_neg (fun h => by have := h.1.1; omega)]; rfl
        · rw [if_neg q1]
          by_cases q2 : seqOf b > 4611686018427387904
          · rw [if_pos q2, if_neg (fun h => by have := h.1.2; omega)]; rfl
          · rw [if_neg q2]
            unfold frame_sided.m
            by_cases d0 : dir = 0
            · rw [if_pos d0, Option.bind_some, cond_true, if_pos ⟨⟨by omega, by omega⟩, .inl d0⟩]
              unfold slices_Clone_bytes.m
              have st : sub (tx b) 10 ((tx b).length : Int) = (tx b).drop 10 := sub_tail (n := 10)
              rw [st, app_okU (by simp; omega), Option.bind_some, Option.bind_some, w64_id (by omega) (by omega)]; rfl
            · rw [if_neg d0]
              by_cases d1 : dir = 1
              · rw [d1, show ((1 : Int) == 1) = true from rfl, Option.bind_some, cond_true, if_pos ⟨⟨by omega, by omega⟩, .inr rfl⟩]
                unfold slices_Clone_bytes.m
                have st : sub (tx b) 10 ((tx b).length : Int) = (tx b).drop 10 := sub_tail (n := 10)
                rw [st, app_okU (by simp; omega), Option.bind_some, Option.bind_some, w64_id (by omega) (by omega)]; rfl
              · rw [beq_eq_false_iff_ne.2 d1, Option.bind_some, cond_false, if_neg (fun h => h.2.elim d0 d1)]; rfl
      · rw [if_neg c1, if_neg (fun h => c1 h.2)]; rfl
    · rw [if_neg c0, if_neg (fun h => c0 h.1)]; rfl
  · rw [if_neg h3, beq_eq_false_iff_ne.2 h3, cond_false]; rfl
def errNo : GoErr → Int
  | .nil => 0
  | .no n => n
  | _ => -1
theorem fval_ge {a : Int} : ∀ {l : List Int} {v : Int}, (∀ y ∈ l, Wf .u8 y) → a ≤ v → a * 256 ^ l.length ≤ fval l v
  | [], v, _, h => by simp [fval]; exact h
  | c :: l, v, w, h => by
    have hc := b_u8 (w c (List.mem_cons_self ..))
    have := fval_ge (a := a * 256) (l := l) (v := v * 256 + c) (fun y hy => w y (List.mem_cons_of_mem _ hy)) (by omega)
    rw [List.length_cons, Int.pow_succ, fval]
    rw [show a * (256 ^ l.length * 256) = a * 256 * 256 ^ l.length by rw [Int.mul_comm (256 ^ l.length) 256, Int.mul_assoc]]
    exact this
theorem seqOf_cons {b : List Int} (h : 10 ≤ b.length) : seqOf b = fval (sub b 3 10) (at_ b 2) := by
  unfold seqOf
  have e : sub b 2 10 = at_ b 2 :: sub b 3 10 := by
    unfold sub
    rw [show (10 : Int).toNat - (2 : Int).toNat = 7 + 1 from rfl, show (10 : Int).toNat - (3 : Int).toNat = 7 from rfl, drop_at (i := 2) (by omega) (by omega), List.take_succ_cons]; rfl
  rw [e, fval, Int.zero_mul, Int.zero_add]
theorem openref_eq {k b : List Int} {dir : Int} (hk : k.length ≤ 1000) (wk : ∀ y ∈ k, Wf .u8 y) (wb : ∀ y ∈ b, Wf .u8 y) : shutterref19_Open.m KK k dir b = some ((openF k dir b).1, errNo (openF k dir b).2) := by
  unfold shutterref19_Open.m openF
  by_cases h1 : b.length < 26
  · rw [if_pos (by omega), if_pos h1]; rfl
  rw [if_neg (show ¬ (b.length : Int) < 26 by omega), if_neg h1]
  by_cases h2 : b.length > 512
  · rw [if_pos (by omega), if_pos h2]; rfl
  have n16 : w64 ((b.length : Int) - 16) = ((b.length - 16 : Nat) : Int) := by rw [w64_id (by omega) (by omega)]; omega
  have wt : ∀ y ∈ tx b, Wf .u8 y := fun y hy => wb y (List.mem_of_mem_take hy)
  have tl : (tx b).length = b.length - 16 := by unfold tx; rw [List.length_take]; omega
  have e0 : sub b 0 ((b.length - 16 : Nat) : Int) = tx b := sub_takeW (by omega)
  have e1 : sub b ((b.length - 16 : Nat) : Int) (b.length : Int) = tg b := sub_drop (by omega)
  have e10 : sub b 10 ((b.length - 16 : Nat) : Int) = (tx b).drop 10 := by
    unfold sub tx; rw [List.drop_take, show ((b.length - 16 : Nat) : Int).toNat = b.length - 16 by omega]; rfl
  have s8 : (sub b 2 10).length = 8 := by rw [sub_length (by omega)]; rfl
  have b1 := b_u8 (wb _ (at_mem (l := b) (i := 1) (by omega) (by omega)))
  have b2 := b_u8 (wb _ (at_mem (l := b) (i := 2) (by omega) (by omega)))
  rw [if_neg (by omega), if_neg h2, n16, if_pos (by omega), if_pos (by omega), e0, e1, reftag_eq (by omega) wk (by omega) wt, Option.bind_some, same_eq (by rw [tag_len wk wt]; omega), Option.bind_some]
  by_cases h3 : sub (hmac k (tx b)) 0 16 = tg b
  · rw [if_pos h3, h3, beq_self_eq_true, cond_true, if_pos (by omega)]
    by_cases c0 : at_ b 0 = 1
    · rw [if_pos c0, if_pos (by omega), w64_id (by omega) (by omega)]
      by_cases c1 : at_ b 1 = dir
      · rw [if_pos c1, if_pos (by omega), if_pos (show at_ b 0 = 1 ∧ at_ b 1 = dir from ⟨c0, c1⟩)]
        by_cases g : at_ b 2 > 64
        · have w3 : ∀ y ∈ sub b 3 10, Wf .u8 y := sub_ok wb _ _
          have l3 : (sub b 3 10).length = 7 := by rw [sub_length (by omega)]; rfl
          have := fval_ge (a := 65) (l := sub b 3 10) (v := at_ b 2) w3 (by omega)
          rw [← seqOf_cons (by omega), l3, show (65 : Int) * 256 ^ 7 = 4683743612465315840 from rfl] at this
          rw [if_pos g, if_neg (fun h => by have := h.1.2; omega)]; rfl
        · rw [if_neg g]
          by_cases d : dir > 1
          · rw [if_pos d, if_neg (fun h => by have := h.2; omega)]; rfl
          · have lp := openref_loop (b := b) wb (by omega) (by omega) s8 KK 0 0 (by omega) (by unfold KK; omega) (by decide)
            rw [List.drop_zero] at lp
            have lp' : shutterref19_Open.l1.m KK b KK 0 2 = some (seqOf b) := lp
            have hbl : ((tx b).drop 10).length ≤ 486 := by rw [List.length_drop]; omega
            rw [if_neg d, lp', Option.bind_some, if_pos (by omega), e10, app_okU (by simp; omega), Option.bind_some, wrong_eqF, Option.bind_some, List.nil_append]
            unfold wrongOfF
            by_cases ok : (1 ≤ seqOf b ∧ seqOf b ≤ 4611686018427387904) ∧ (dir = 0 ∨ dir = 1)
            · have o : okF ⟨dir, seqOf b, (tx b).drop 10⟩ := ⟨ok.2, ok.1.1, ok.1.2⟩
              rw [if_pos o, if_pos ok, if_neg (show ¬ ((tx b).drop 10).length > 486 by omega), if_pos rfl]; rfl
            · have o : ¬ okF ⟨dir, seqOf b, (tx b).drop 10⟩ := fun o => ok ⟨⟨o.2.1, o.2.2⟩, o.1⟩
              rw [if_neg o, if_neg ok, if_neg (by omega)]; rfl
      · rw [if_neg c1, if_neg (fun h => c1 h.2)]; rfl
    · rw [if_neg c0, if_neg (fun h => c0 h.1)]; rfl
  · rw [if_neg h3, beq_eq_false_iff_ne.2 h3, cond_false]; rfl
end Go.Proofs.YtjkbhpokboolpaaGreatDoor.Sx

namespace Go.Proofs.YtjkbhpokboolpaaGreatDoor.Sx
open Go
set_option maxRecDepth 100000
theorem sealT_tx {k : List Int} {f : api_Frame} (wk : ∀ y ∈ k, Wf .u8 y) (wb : ∀ y ∈ f.Body, Wf .u8 y) : tx (sealT k f) = txt f ∧ tg (sealT k f) = sub (hmac k (txt f)) 0 16 := by
  have l := (sealT_ok wk wb).1
  have e : (sealT k f).length - 16 = (txt f).length := by rw [txt_len]; omega
  unfold tx tg
  rw [e]; unfold sealT
  exact ⟨List.take_left' rfl, List.drop_left' rfl⟩
theorem sealT_at {k : List Int} {f : api_Frame} (o : okF f) : at_ (sealT k f) 0 = 1 ∧ at_ (sealT k f) 1 = f.Dir := by
  refine ⟨rfl, ?_⟩
  have : at_ (sealT k f) 1 = IntKind.u8.wrap f.Dir := rfl
  rw [this, wrap_u8]; rcases o.1 with d | d <;> rw [d] <;> rfl
theorem sealT_seq {k : List Int} {f : api_Frame} (o : okF f) : seqOf (sealT k f) = f.Seq := by
  have e : sub (sealT k f) 2 10 = sbs f.Seq 8 0 := by
    unfold sub sealT txt
    rw [show (10 : Int).toNat - (2 : Int).toNat = 8 from rfl, show (2 : Int).toNat = 2 from rfl, List.cons_append, List.cons_append, List.drop_succ_cons, List.drop_succ_cons, List.drop_zero, List.append_assoc]
    exact List.take_left' (sbs_len _ _ _)
  unfold seqOf
  rw [e]; exact fval_sbs (by have := o.2.1; omega) o.2.2
theorem txt_body (f : api_Frame) : (txt f).drop 10 = f.Body := by
  unfold txt
  rw [List.drop_succ_cons, List.drop_succ_cons]
  exact List.drop_left' (sbs_len _ _ _)
theorem open_seal {k : List Int} {f : api_Frame} (wk : ∀ y ∈ k, Wf .u8 y) (wb : ∀ y ∈ f.Body, Wf .u8 y) (o : okF f) (hb : f.Body.length ≤ 486) :
    openF k f.Dir (sealT k f) = (f, .nil) ∧ openF k (1 - f.Dir) (sealT k f) = (zF, .no 13) := by
  have l := (sealT_ok wk wb).1
  have a := sealT_at (k := k) o
  have s := sealT_tx wk wb
  have q := sealT_seq (k := k) o
  have tb := txt_body f
  constructor
  · unfold openF
    rw [if_neg (by omega), if_neg (by omega), s.1, s.2, if_pos rfl, if_pos a, q, if_pos ⟨⟨o.2.1, o.2.2⟩, o.1⟩, tb]
  · unfold openF
    rw [if_neg (by omega), if_neg (by omega), s.1, s.2, if_pos rfl, if_neg (fun h => by rw [a.2] at h; rcases o.1 with d | d <;> rw [d] at h <;> exact absurd h.2 (by decide))]
end Go.Proofs.YtjkbhpokboolpaaGreatDoor.Sx
