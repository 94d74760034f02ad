import Derived.Test.YtjkbhpokboolpaaGreatDoorSS
import Derived.Test.YtjkbhpokboolpaaGreatDoorGE
namespace Go.Proofs.YtjkbhpokboolpaaGreatDoor.Sx
open Go
set_option maxRecDepth 100000
set_option maxHeartbeats 4000000
section
variable {s : api_Screen}
theorem fmt_lU (u : US s) : ∀ (k : Nat) (i : Int), 0 ≤ i → i ≤ (s.Cells.length : Int) → (s.Cells.length : Int) - i < k → slices_IndexFunc_api_Cell__field_Formatted_1.l1.m KK s.Cells k i = some () := by
  have hl := u.len
  intro k
  induction k with
  | zero => intro i _ _ h; omega
  | succ k ih =>
    intro i i0 i1 hk
    rw [slices_IndexFunc_api_Cell__field_Formatted_1.l1.m]
    simp only [letJ]
    by_cases h3 : i < (s.Cells.length : Int)
    · unfold field_Formatted_1.m
      rw [if_pos h3, cond_true, if_pos i0, if_pos h3, (u.at i0 h3).1, Option.bind_some, cond_false, w64_id (n := i + 1) (by omega) (by omega)]
      exact ih (i + 1) (by omega) (by omega) (by omega)
    · rw [if_neg h3, cond_false]
theorem fmtU (u : US s) : field_Formatted.m KK s = some false := by
  have hl := u.len
  unfold field_Formatted.m slices_ContainsFunc_api_Cell__field_Formatted_1.m slices_IndexFunc_api_Cell__field_Formatted_1.m
  rw [fmt_lU u KK 0 (by omega) (by omega) (by unfold KK; omega)]
  rfl
theorem lettersU (u : US s) : read_letters.m KK s (ups s.Cells.length 0) = some (ltrS s (ups s.Cells.length 0)) := by
  refine lettersS_eq (by rw [ups_len]; exact u.len) fun x hx => ?_
  have h := ups_in _ _ x hx
  exact ⟨by omega, by omega, by unfold isC; rw [(u.at (by omega) (by omega)).1]; rfl⟩
theorem ltrS_ok (u : US s) : (ltrS s (ups s.Cells.length 0)).length ≤ s.Cells.length ∧ ∀ y ∈ ltrS s (ups s.Cells.length 0), Wf .u8 y ∧ ltr y = true := by
  refine ⟨by have := ltrS_len s (ups s.Cells.length 0); rw [ups_len] at this; exact this, fun y hy => ?_⟩
  unfold ltrS at hy
  obtain ⟨h1, h2⟩ := List.mem_filter.1 hy
  obtain ⟨i, hi, rfl⟩ := List.mem_map.1 h1
  have h := ups_in _ _ i hi
  have o := u.at (i := i) (by omega) (by omega)
  have hz : (at_ s.Cells i).Char ≠ 0 := by simpa using h2
  exact ⟨o.2.2.1, o.2.2.2.resolve_left hz⟩
theorem replyU (u : US s) {x : Int} (wx : Wf .u8 x) (ha : attr_Aid.m x = some true) : ∃ b, read_Reply.m KK s 246 x = some (b, .nil) ∧ (∀ y ∈ b, Wf .u8 y) ∧ b.length ≤ 3 + s.Cells.length := by
  have hl := u.len; have l0 := u.l0; have c0 := u.c0; have c1 := u.c1
  have n1 : 1 ≤ (s.Cells.length : Int) := by omega
  have n2 : (s.Cells.length : Int) ≤ 16383 := by omega
  have aid : aidC x = true := by
    have := ha; rw [aid_eq] at this; exact Option.some.inj this
  obtain ⟨tl, tw⟩ := ltrS_ok u
  generalize ht : ltrS s (ups s.Cells.length 0) = t at tl tw
  have tall : t.all ltr = true := List.all_eq_true.2 fun y hy => (tw y hy).2
  -- a submission that may be, and is short
  have good : ∀ (o : api_In), o.Aid = x → (o = ⟨x, 0, []⟩ ∧ bareC x = true) ∨ (bareC x = false ∧ o.Cursor = s.Cursor ∧ (o.Fields = [] ∨ (o.Fields = [⟨-1, t⟩] ∧ t ≠ []))) →
      ∃ b, input_Write.m KK o (s.Cells.length : Int) = some (b, .nil) ∧ (∀ y ∈ b, Wf .u8 y) ∧ b.length ≤ 3 + s.Cells.length := by
    intro o hA hO
    have fl : (flatF o.Fields (s.Cells.length : Int)).length ≤ s.Cells.length := by
      rcases hO with ⟨rfl, _⟩ | ⟨_, _, e | ⟨e, _⟩⟩
      · simp [flatF]
      · rw [e]; simp [flatF]
      · rw [e, flatF_cons, List.length_append, putF_len]; simp [flatF]; exact tl
    have f1 : o.Fields.length ≤ 100000 := by
      rcases hO with ⟨rfl, _⟩ | ⟨_, _, e | ⟨e, _⟩⟩
      · simp
      · rw [e]; simp
      · rw [e]; simp
    have f2 : ∀ f ∈ o.Fields, f.Text.length ≤ 100000 ∧ ∀ y ∈ f.Text, Wf .u8 y := by
      rcases hO with ⟨rfl, _⟩ | ⟨_, _, e | ⟨e, _⟩⟩
      · simp
      · rw [e]; simp
      · rw [e]; intro f hf; obtain rfl := List.mem_singleton.1 hf
        exact ⟨by show t.length ≤ 100000; omega, fun y hy => (tw y hy).1⟩
    have e : errI o (s.Cells.length : Int) = .nil := by
      unfold errI
      rw [hA, aid]
      rcases hO with ⟨rfl, hb⟩ | ⟨hb, hc, e | ⟨e, hne⟩⟩
      · rw [hb]; simp
      · rw [hb, hc, e]; simp only [if_true, Bool.false_eq_true, if_false]; rw [if_neg (by omega)]; rfl
      · rw [hb, hc, e]; simp only [if_true, Bool.false_eq_true, if_false]; rw [if_neg (by omega)]
        have hw : wrongF ⟨-1, t⟩ true (s.Cells.length : Int) = 0 := by
          unfold wrongF
          rw [tall]
          cases t with
          | nil => exact absurd rfl hne
          | cons y t => simp
        simp only [List.length_singleton, beq_self_eq_true]
        unfold fW
        rw [if_neg (by rw [hw]; simp)]
        rfl
    have hn : (writeI o (s.Cells.length : Int)).2 = .nil ∧ (writeI o (s.Cells.length : Int)).1.length ≤ 3 + s.Cells.length := by
      unfold writeI
      rw [if_pos e]
      by_cases hb : bareC o.Aid = true
      · rw [if_pos hb]; exact ⟨rfl, by simp; omega⟩
      · rw [if_neg hb, if_neg (by omega)]
        exact ⟨rfl, by simp only [List.length_cons, List.length_append, put_len]; omega⟩
    refine ⟨(writeI o (s.Cells.length : Int)).1, ?_, writeI_u8 n1 n2 (hA ▸ wx) (fun f hf => (f2 f hf).2) hn.1, hn.2⟩
    rw [write9_eq n1 n2 f1 (fun f hf => (f2 f hf).1) (by omega)]
    rw [← hn.1]
  have fin : ∀ (m : Option (api_In × GoErr)) (o : api_In), m = some (o, .nil) → (∃ b, input_Write.m KK o (s.Cells.length : Int) = some (b, .nil) ∧ (∀ y ∈ b, Wf .u8 y) ∧ b.length ≤ 3 + s.Cells.length) →
      ∃ b, (m.bind fun t0 => (if t0.2 = GoErr.nil then ((grid_Size.m s).bind fun t2 => ((input_Write.m KK t0.1 t2).bind fun t1 => (some (t1.1, t1.2)))) else none)) = some (b, .nil) ∧ (∀ y ∈ b, Wf .u8 y) ∧ b.length ≤ 3 + s.Cells.length := by
    rintro m o rfl ⟨b, e, h⟩
    unfold grid_Size.m
    simp only [Option.bind_some, if_true, e]
    exact ⟨b, rfl, h⟩
  unfold read_Reply.m
  rw [if_pos rfl]
  cases hb : bareC x with
  | true =>
    refine fin _ ⟨x, 0, []⟩ ?_ (good _ rfl (.inl ⟨rfl, hb⟩))
    unfold read_Modified.m
    rw [ha, Option.bind_some, cond_true, bare_eq, hb]
    rfl
  | false =>
    by_cases hz : t = []
    · refine fin _ ⟨x, s.Cursor, []⟩ ?_ (good _ rfl (.inr ⟨hb, rfl, .inl rfl⟩))
      unfold read_Modified.m
      rw [ha, Option.bind_some, cond_true, bare_eq, hb, Option.bind_some, cond_false, fmtU u, Option.bind_some, cond_false, cellsU u (by omega) (by omega), Option.bind_some, lettersU u, ht, hz]
      rfl
    · refine fin _ ⟨x, s.Cursor, [⟨-1, t⟩]⟩ ?_ (good _ rfl (.inr ⟨hb, rfl, .inr ⟨rfl, hz⟩⟩))
      have tp : (t.length : Int) > 0 := by
        cases t with
        | nil => exact absurd rfl hz
        | cons y t => simp only [List.length_cons]; omega
      unfold read_Modified.m
      rw [ha, Option.bind_some, cond_true, bare_eq, hb, Option.bind_some, cond_false, fmtU u, Option.bind_some, cond_false, cellsU u (by omega) (by omega), Option.bind_some, lettersU u, ht, Option.bind_some, if_pos tp]
end
structure CL (key : List Int) (n : Int) (i : Nat) (c : side_Client) : Prop where
  u : US c.s'
  n24 : c.s'.Cells.length ≤ 24
  ln : LN c.side'.line'
  ql : c.side'.line'.queue'.length ≤ i
  k : c.side'.key' = key
  d : c.side'.dir' = 0
  sq : c.side'.seq' = n
  td : c.todo' = []
  st : c.sent'.length ≤ i
  ev : c.events'.length ≤ i
structure HL (key : List Int) (n : Int) (h : side_Host) : Prop where
  ln : LN h.side'.line'
  k : h.side'.key' = key
  d : h.side'.dir' = 1
  sq : h.side'.seq' = n
theorem sendU {key : List Int} {n : Int} {i : Nat} {c : side_Client} (C : CL key n i c) (hi : i ≤ 100) {b : List Int} (wb : ∀ y ∈ b, Wf .u8 y) (hb : b.length ≤ 40) :
    ∃ c', side_Client_send.m KK c 0 b = some (true, c') ∧ CL key n (i + 1) c' ∧ c'.s' = c.s' ∧ c'.events' = c.events' := by
  have hq := C.ql
  have w0 : ∀ y ∈ (0 : Int) :: b, Wf .u8 y := fun y hy => by
    rcases List.mem_cons.1 hy with rfl | hy
    · exact w8_0
    · exact wb y hy
  obtain ⟨e, l', es, L', _, _, _, one⟩ := send_eq C.ln w0 (by simp) (by simp; omega)
  obtain ⟨rfl, hq'⟩ := one (by simp; omega) (by omega)
  unfold side_Client_send.m
  rw [appk (by simp; omega), Option.bind_some]
  have hb1 : (([0] ++ b).length : Int) = (b.length : Int) + 1 := by simp
  have hr : line_Line_Room.m c.side'.line' (([0] ++ b).length : Int) = some (true, c.side'.line') := by
    unfold line_Line_Room.m line_Line_room.m
    rw [hb1, if_pos (by omega), if_pos (by omega), w64_id (n := (b.length : Int) + 1 + 64) (by omega) (by omega), w64_id (n := (b.length : Int) + 1 + 64 - 1) (by omega) (by omega), Int.tdiv_eq_ediv_of_nonneg (by omega), w64_id (n := ((b.length : Int) + 1 + 64 - 1) / 64) (by omega) (by omega), w64_id (by omega) (by omega),
      decide_eq_true (by omega)]
    rfl
  have es' : line_Line_Send.m KK (⟨c.side'.line'.queue', c.side'.line'.given', c.side'.line'.await', c.side'.line'.kept', c.side'.line'.coming', c.side'.line'.wait', c.side'.line'.left', c.side'.line'.owes'⟩ : line_Line) ([0] ++ b) = some (.nil, l') := es
  rw [hr, Option.bind_some, cond_true]
  simp only
  rw [es', Option.bind_some, if_pos rfl, appk (by have := C.st; simp; omega), Option.bind_some]
  refine ⟨_, rfl, ⟨C.u, C.n24, ?_, ?_, C.k, C.d, C.sq, C.td, ?_, ?_⟩, rfl, rfl⟩
  · exact ⟨L'.q, L'.len, L'.giv, L'.aw, L'.ow, L'.w0, L'.w1, L'.f0, L'.f1⟩
  · show l'.queue'.length ≤ i + 1; omega
  · have := C.st; simp; omega
  · have := C.ev; show c.events'.length ≤ i + 1; omega
theorem CL.up {key : List Int} {n : Int} {i : Nat} {c : side_Client} (C : CL key n i c) : CL key n (i + 1) c :=
  ⟨C.u, C.n24, C.ln, by have := C.ql; omega, C.k, C.d, C.sq, C.td, by have := C.st; omega, by have := C.ev; omega⟩
theorem pressU {key : List Int} {n : Int} {i : Nat} {c : side_Client} (C : CL key n i c) (hi : i ≤ 100) {k : api_Key} (wc : Wf .u8 k.Char) :
    ∃ a e c', side_Client_press.m KK c k = some (a, e, c') ∧ CL key n (i + 1) c' ∧ c'.events' = c.events' := by
  obtain ⟨t, a, e, ek, hn, hA⟩ := keysU C.u wc
  have ht24 : t.Cells.length ≤ 24 := by rw [hn.2.1]; exact C.n24
  unfold side_Client_press.m
  simp only [letJ]
  rw [ek, Option.bind_some]
  cases a with
  | false =>
    simp only [cond_false]
    exact ⟨_, _, _, rfl, ⟨hn.1, ht24, C.ln, C.up.ql, C.k, C.d, C.sq, C.td, C.up.st, C.up.ev⟩, rfl⟩
  | true =>
    obtain ⟨ha, he⟩ := hA rfl
    obtain ⟨b, eb, wb, hb⟩ := replyU C.u wc ha
    obtain ⟨c', es, C', hs, hev⟩ := sendU C hi wb (by have := C.n24; omega)
    simp only [cond_true]
    unfold side_Client_ask.m
    rw [eb]
    simp only [Option.bind_some, if_true, es, cond_true]
    exact ⟨_, _, _, rfl, ⟨hn.1, ht24, C'.ln, C'.ql, C.k, C'.d, C'.sq, C.td, C'.st, C.up.ev⟩, rfl⟩
theorem keyU {key : List Int} {n : Int} {i : Nat} {c : side_Client} (C : CL key n i c) (hi : i ≤ 100) {k : api_Key} (wc : Wf .u8 k.Char) :
    ∃ r, side_Client_Key.m KK c k = some r ∧ CL key n (i + 1) (⟨(⟨c.side'.key', (⟨c.side'.gate'.Key, r.2.2.side'.gate'.Dir, r.2.2.side'.gate'.Seen, r.2.2.side'.gate'.Peer⟩ : roam_Gate), r.2.2.side'.line', r.2.2.side'.dir', r.2.2.side'.seq'⟩ : side_side), r.2.2.s', c.todo', r.2.2.sent', r.2.2.events'⟩ : side_Client) := by
  obtain ⟨a, e, c', ep, C', hev⟩ := pressU C hi wc
  have hE := C.ev
  unfold side_Client_Key.m api_Code.m
  rw [ep]
  simp only [Option.bind_some]
  rw [appk (by simp; omega), Option.bind_some]
  exact ⟨_, rfl, ⟨C'.u, C'.n24, C'.ln, C'.ql, C.k, C'.d, C'.sq, C.td, C'.st, by simp; omega⟩⟩
theorem ordW_right {n : Int} : ∀ (l : List api_Order) (pv : Bool) (i : Int), ordW n pv i l = none → ∀ x ∈ l, RightO x n := by
  intro l
  induction l with
  | nil => intro _ _ _ x hx; cases hx
  | cons o l ih =>
    intro pv i h x hx
    unfold ordW at h
    by_cases hw : wrongOf o n = 0
    · rw [if_neg (by simp [hw])] at h
      by_cases hp : (pv && (o.Kind == 1)) = true
      · rw [if_pos hp] at h; simp at h
      · rw [if_neg hp] at h
        rcases List.mem_cons.1 hx with rfl | hx
        · exact right_iff.1 hw
        · exact ih _ _ h x hx
    · rw [if_pos hw] at h; simp at h
theorem putO_u8S {o : api_Order} {n : Int} (n2 : n ≤ 16383) (r : RightO o n) (ht : ∀ y ∈ o.Text, Wf .u8 y) (hc : Wf .u8 o.Char) : ∀ y ∈ putO o n, Wf .u8 y := by
  have h1 := r.lo; have h2 := r.hi; have ra := r.attr; have rp := r.addr
  obtain ⟨k, t, a, ad, ch⟩ := o
  simp only at h1 h2 ra rp ht hc ⊢
  unfold putO
  rcases kinds (k := k) (by omega) (by omega) with rfl | rfl | rfl | rfl | rfl | rfl | rfl
  · simpa using ht
  · intro y hy
    simp at hy
    rcases hy with rfl | rfl
    · exact wf8i (by omega) (by omega)
    · exact wf8i (attr_facts (ra rfl)).2.2.2.1 (attr_facts (ra rfl)).2.2.2.2
  · obtain ⟨p1, p2⟩ := rp (by simp)
    intro y hy
    simp at hy
    rcases hy with rfl | hy
    · exact wf8i (by omega) (by omega)
    · exact put_u8 n2 p1 p2 y hy
  · intro y hy
    simp at hy
    subst hy
    exact wf8i (by omega) (by omega)
  · intro y hy
    simp at hy
    subst hy
    exact wf8i (by omega) (by omega)
  · obtain ⟨p1, p2⟩ := rp (by simp)
    intro y hy
    simp at hy
    rcases hy with rfl | hy | rfl
    · exact wf8i (by omega) (by omega)
    · exact put_u8 n2 p1 p2 y hy
    · exact hc
  · obtain ⟨p1, p2⟩ := rp (by simp)
    intro y hy
    simp at hy
    rcases hy with rfl | hy
    · exact wf8i (by omega) (by omega)
    · exact put_u8 n2 p1 p2 y hy
theorem writeOf_u8S {o : api_Out} {n : Int} (n2 : n ≤ 16383) (hu : ∀ x ∈ o.Orders, (∀ y ∈ x.Text, Wf .u8 y) ∧ Wf .u8 x.Char) : (∀ y ∈ (writeOf o n).1, Wf .u8 y) ∧ ((writeOf o n).2 = .nil → 1 ≤ (writeOf o n).1.length) := by
  obtain ⟨c, w, l⟩ := o
  unfold writeOf
  simp only at hu ⊢
  cases hk : knownC c with
  | false => simp
  | true =>
    have hc := known_u8 hk
    have hc8 := wf8i hc.1 hc.2
    simp only [if_true]
    split
    · split
      · simp
      · rename_i ho
        split
        · simp
        · refine ⟨fun y hy => ?_, fun _ => by simp⟩
          simp only [List.mem_cons] at hy
          rcases hy with rfl | rfl | hy
          · exact hc8
          · exact wf8i (wcc_facts w).2.2.2.1 (wcc_facts w).2.2.2.2
          · unfold flatO at hy
            simp only [List.mem_flatten, List.mem_map] at hy
            obtain ⟨q, ⟨x, hx, rfl⟩, hy⟩ := hy
            exact putO_u8S n2 (ordW_right l false 0 ho x hx) (hu x hx).1 (hu x hx).2 y hy
    · split
      · refine ⟨fun y hy => ?_, fun _ => by simp⟩
        simp at hy; subst hy; exact hc8
      · simp
theorem commandU {key : List Int} {n : Int} {h : side_Host} (H : HL key n h) {o : api_Out} (f : FewO o) (ok : ok_api_Out o) :
    ∃ r, side_Host_Command.m KK h o 24 = some r ∧ HL key n (⟨(⟨h.side'.key', (⟨h.side'.gate'.Key, r.2.side'.gate'.Dir, r.2.side'.gate'.Seen, r.2.side'.gate'.Peer⟩ : roam_Gate), r.2.side'.line', r.2.side'.dir', r.2.side'.seq'⟩ : side_side), h.got'⟩ : side_Host) := by
  have hx : ∀ x ∈ o.Orders, x.Text.length ≤ 100000 := fun x h => Nat.le_trans (f.t x h) (by decide)
  obtain ⟨wu, w1⟩ := writeOf_u8S (o := o) (n := 24) (by decide) (okOut ok)
  unfold side_Host_Command.m
  rw [swrite_eq (by decide) (by decide) f.tot hx (by have := f.n; omega), Option.bind_some]
  by_cases hw : (writeOf o 24).2 = .nil
  · rw [if_pos hw]
    obtain ⟨e, l', es, L', he, _⟩ := send_eq H.ln wu (w1 hw) writeOf_len
    rw [es, Option.bind_some]
    have L2 : LN (⟨l'.queue', l'.given', l'.await', h.side'.line'.kept', h.side'.line'.coming', l'.wait', l'.left', l'.owes'⟩ : line_Line) := ⟨L'.q, L'.len, L'.giv, L'.aw, L'.ow, L'.w0, L'.w1, L'.f0, L'.f1⟩
    rcases he with rfl | rfl
    · exact ⟨_, rfl, ⟨L2, H.k, H.d, H.sq⟩⟩
    · exact ⟨_, rfl, ⟨L2, H.k, H.d, H.sq⟩⟩
  · rw [if_neg hw]
    exact ⟨_, rfl, ⟨H.ln, H.k, H.d, H.sq⟩⟩
def outs (key : List Int) (d : Int) : Int → List api_Pack → List (List Int)
  | _, [] => []
  | n, p :: ps => sealT key ⟨d, n + 1, bodyOf p⟩ :: outs key d (n + 1) ps
theorem outs_len (key : List Int) (d : Int) : ∀ (ps : List api_Pack) (n : Int), (outs key d n ps).length = ps.length
  | [], _ => rfl
  | p :: ps, n => by rw [outs, List.length_cons, outs_len key d ps, List.length_cons]
theorem packs_l {key : List Int} (hk : key.length ≤ 100) (wk : ∀ y ∈ key, Wf .u8 y) {d : Int} (hd : d = 0 ∨ d = 1) {sd : side_side} (k1 : sd.key' = key) (k2 : sd.dir' = d) {t : List api_Pack × line_Line} (ht : ∀ p ∈ t.1, okP p ∧ p.Ack = 0) (h8 : t.1.length ≤ 8) :
    ∀ (k : Nat) (acc : List (List Int)) (i n : Int), 0 ≤ i → i ≤ (t.1.length : Int) → (t.1.length : Int) - i < k → acc.length ≤ i → 0 ≤ n → n ≤ 100000 + i →
    side_side_packs.l1.m KK sd t k acc i n = some (acc ++ outs key d n (t.1.drop i.toNat), n + ((t.1.length : Int) - i)) := by
  intro k
  induction k with
  | zero => intro acc i n _ _ h; omega
  | succ k ih =>
    intro acc i n i0 i1 hk' ha n0 n1
    rw [side_side_packs.l1.m]
    simp only [letJ]
    by_cases h3 : i < (t.1.length : Int)
    · obtain ⟨hp, hak⟩ := ht _ (at_in i0 h3)
      obtain ⟨wb, lb, db⟩ := bodyOf_ok hp
      have hw : w64 (n + 1) = n + 1 := w64_id (by omega) (by omega)
      have okf : okF ⟨d, n + 1, bodyOf (at_ t.1 i)⟩ := ⟨hd, by show 1 ≤ n + 1; omega, by show n + 1 ≤ 4611686018427387904; omega⟩
      have se : frame_Seal.m KK sd.key' ⟨sd.dir', n + 1, bodyOf (at_ t.1 i)⟩ = some (sealT key ⟨d, n + 1, bodyOf (at_ t.1 i)⟩, .nil) := by
        rw [k1, k2, seal_eq (by omega) wk wb]
        unfold sealF
        rw [if_pos okf, if_neg (by show ¬ (bodyOf (at_ t.1 i)).length > 486; omega)]
      rw [if_pos h3, cond_true, if_pos i0, if_pos h3, pwrite_eq hp hak, Option.bind_some, if_pos rfl, hw, se, Option.bind_some, if_pos rfl, appk (by simp; omega), Option.bind_some, w64_id (n := i + 1) (by omega) (by omega),
        ih _ (i + 1) (n + 1) (by omega) (by omega) (by omega) (by simp; omega) (by omega) (by omega), at_cons i0 h3, outs]
      simp only [List.append_assoc, List.singleton_append]
      congr 2
      omega
    · rw [if_neg h3, cond_false, List.drop_eq_nil_of_le (by omega), outs, List.append_nil]
      congr 2
      omega
theorem packsU {key : List Int} (hk : key.length ≤ 100) (wk : ∀ y ∈ key, Wf .u8 y) {d n : Int} (hd : d = 0 ∨ d = 1) {sd : side_side} (L : LN sd.line') (k1 : sd.key' = key) (k2 : sd.dir' = d) (k3 : sd.seq' = n) (n0 : 0 ≤ n) (n1 : n ≤ 100000) :
    ∃ ps sd', side_side_packs.m KK sd = some (outs key d n ps, sd') ∧ LN sd'.line' ∧ sd'.line'.queue' = sd.line'.queue' ∧ sd'.key' = key ∧ sd'.dir' = d ∧ sd'.seq' = n + (ps.length : Int) ∧ ps.length ≤ 8 ∧ ∀ p ∈ ps, okP p ∧ p.Ack = 0 := by
  obtain ⟨ps, l', et, L', hq, h8, hp⟩ := tick_eq L
  unfold side_side_packs.m
  rw [et, Option.bind_some, packs_l (t := (ps, l')) hk wk hd k1 k2 hp h8 KK [] 0 sd.seq' (by omega) (by simp) (by simp only; unfold KK; omega) (by simp) (by omega) (by omega)]
  simp only [Option.bind_some, Int.toNat_zero, List.drop_zero, List.nil_append, k3]
  refine ⟨ps, _, rfl, ⟨L'.q, L'.len, L'.giv, L'.aw, L'.ow, L'.w0, L'.w1, L'.f0, L'.f1⟩, hq, k1, k2, ?_, h8, hp⟩
  show n + ((ps.length : Int) - 0) = _
  omega
theorem opened {key : List Int} (hk : key.length ≤ 100) (wk : ∀ y ∈ key, Wf .u8 y) {d n : Int} (hd : d = 0 ∨ d = 1) (n0 : 0 ≤ n) (n1 : n ≤ 200000) {p : api_Pack} (hp : okP p) :
    shutterref19_Open.m KK key d (sealT key ⟨d, n + 1, bodyOf p⟩) = some (⟨d, n + 1, bodyOf p⟩, 0) ∧ ∃ q, shutterref22_Read.m KK (bodyOf p) = some (q, 0) := by
  obtain ⟨wb, lb, db⟩ := bodyOf_ok hp
  have okf : okF ⟨d, n + 1, bodyOf p⟩ := ⟨hd, by show 1 ≤ n + 1; omega, by show n + 1 ≤ 4611686018427387904; omega⟩
  have ws := (sealT_ok (k := key) (f := ⟨d, n + 1, bodyOf p⟩) wk wb).2
  refine ⟨?_, pread_eq hp⟩
  rw [openref_eq (by omega) wk ws, (open_seal (f := ⟨d, n + 1, bodyOf p⟩) wk wb okf (by show (bodyOf p).length ≤ 486; omega)).1]
  rfl
theorem drop_cons {α : Type} [Inhabited α] {l : List α} {i : Int} {x : α} {r : List α} (h0 : 0 ≤ i) (h : l.drop i.toNat = x :: r) : i < (l.length : Int) ∧ at_ l i = x ∧ l.drop (i + 1).toNat = r := by
  have h1 : i < (l.length : Int) := by
    have := congrArg List.length h
    rw [List.length_drop, List.length_cons] at this
    omega
  have h2 := at_cons h0 h1
  rw [h] at h2
  obtain ⟨a, b⟩ := List.cons.inj h2
  exact ⟨h1, a.symm, b.symm⟩
theorem chk2 {key : List Int} (hk : key.length ≤ 100) (wk : ∀ y ∈ key, Wf .u8 y) {t : List (List Int) × side_Client} (ht : t.1.length ≤ 8) : ∀ (ps : List api_Pack) (k : Nat) (n i : Int), ps.length < k → 0 ≤ i → t.1.drop i.toNat = outs key 0 n ps → (∀ p ∈ ps, okP p) → 0 ≤ n → n ≤ 100000 + i →
    shutterlaw25_SideSeals.l2.m KK key t k n i = some (n + (ps.length : Int)) := by
  intro ps
  induction ps with
  | nil =>
    intro k n i hk' i0 h _ n0 n1
    obtain ⟨k, rfl⟩ : ∃ q, k = q + 1 := ⟨k - 1, by simp at hk'; omega⟩
    have hl : ¬ i < (t.1.length : Int) := by
      have := congrArg List.length h
      rw [List.length_drop, outs, List.length_nil] at this
      omega
    rw [shutterlaw25_SideSeals.l2.m, if_neg hl]
    simp
  | cons p ps ih =>
    intro k n i hk' i0 h hp n0 n1
    obtain ⟨k, rfl⟩ : ∃ q, k = q + 1 := ⟨k - 1, by simp at hk'; omega⟩
    rw [outs] at h
    obtain ⟨h1, h2, h3⟩ := drop_cons i0 h
    obtain ⟨e1, q, e2⟩ := opened hk wk (d := 0) (.inl rfl) n0 (by omega) (hp p (List.mem_cons_self ..))
    rw [shutterlaw25_SideSeals.l2.m, if_pos h1, if_pos i0, h2, e1]
    simp only [Option.bind_some, e2, if_true]
    rw [w64_id (n := n + 1) (by omega) (by omega), if_pos rfl, w64_id (n := i + 1) (by omega) (by omega), ih k (n + 1) (i + 1) (by simp at hk'; omega) (by omega) h3 (fun x hx => hp x (List.mem_cons_of_mem _ hx)) (by omega) (by omega)]
    simp only [List.length_cons]
    congr 1
    omega
theorem chk3 {key : List Int} (hk : key.length ≤ 100) (wk : ∀ y ∈ key, Wf .u8 y) {t : List (List Int) × side_Host} (ht : t.1.length ≤ 8) : ∀ (ps : List api_Pack) (k : Nat) (n i : Int), ps.length < k → 0 ≤ i → t.1.drop i.toNat = outs key 1 n ps → (∀ p ∈ ps, okP p) → 0 ≤ n → n ≤ 100000 + i →
    shutterlaw25_SideSeals.l3.m KK key t k n i = some (n + (ps.length : Int)) := by
  intro ps
  induction ps with
  | nil =>
    intro k n i hk' i0 h _ n0 n1
    obtain ⟨k, rfl⟩ : ∃ q, k = q + 1 := ⟨k - 1, by simp at hk'; omega⟩
    have hl : ¬ i < (t.1.length : Int) := by
      have := congrArg List.length h
      rw [List.length_drop, outs, List.length_nil] at this
      omega
    rw [shutterlaw25_SideSeals.l3.m, if_neg hl]
    simp
  | cons p ps ih =>
    intro k n i hk' i0 h hp n0 n1
    obtain ⟨k, rfl⟩ : ∃ q, k = q + 1 := ⟨k - 1, by simp at hk'; omega⟩
    rw [outs] at h
    obtain ⟨h1, h2, h3⟩ := drop_cons i0 h
    obtain ⟨e1, q, e2⟩ := opened hk wk (d := 1) (.inr rfl) n0 (by omega) (hp p (List.mem_cons_self ..))
    rw [shutterlaw25_SideSeals.l3.m, if_pos h1, if_pos i0, h2, e1]
    simp only [Option.bind_some, e2, if_true]
    rw [w64_id (n := n + 1) (by omega) (by omega), if_pos rfl, w64_id (n := i + 1) (by omega) (by omega), ih k (n + 1) (i + 1) (by simp at hk'; omega) (by omega) h3 (fun x hx => hp x (List.mem_cons_of_mem _ hx)) (by omega) (by omega)]
    simp only [List.length_cons]
    congr 1
    omega
theorem seals_l {key : List Int} (hk : key.length ≤ 100) (wk : ∀ y ∈ key, Wf .u8 y) {x1 : List shutterlaw25_Act} (hx : x1.length ≤ 60) (wx : ∀ y ∈ x1, ok_shutterlaw25_Act y) (fx : ∀ y ∈ x1, FewO y.Out) :
    ∀ (k : Nat) (i n m : Int) (c : side_Client) (h : side_Host), 0 ≤ i → i ≤ (x1.length : Int) → (x1.length : Int) - i < k → 0 ≤ n → n ≤ 8 * i → 0 ≤ m → m ≤ 8 * i → CL key n i.toNat c → HL key m h →
    shutterlaw25_SideSeals.l1.m KK key x1 k n m i c h = some () := by
  intro k
  induction k with
  | zero => intro i n m c h _ _ hh; omega
  | succ k ih =>
    intro i n m c h i0 i1 hk' n0 n1 m0 m1 C H
    rw [shutterlaw25_SideSeals.l1.m]
    by_cases h3 : i < (x1.length : Int)
    · have hy := at_in i0 h3
      have ok := wx _ hy
      have hi1 : (i + 1).toNat = i.toNat + 1 := by omega
      rw [if_pos h3, if_pos i0, w64_id (n := i + 1) (by omega) (by omega)]
      by_cases d1 : (at_ x1 i).Do = 1
      · obtain ⟨r, er, Hr⟩ := commandU H (fx _ hy) ok.2.2.1
        have er' : side_Host_Command.m KK h (⟨((at_ x1 i).Out).Cmd, (((at_ x1 i).Out).Wcc), ((at_ x1 i).Out).Orders⟩ : api_Out) 24 = some r := er
        rw [if_pos d1, er', Option.bind_some]
        exact ih (i + 1) n m c _ (by omega) (by omega) (by omega) n0 (by omega) m0 (by omega) (hi1 ▸ C.up) Hr
      · rw [if_neg d1]
        by_cases d0 : (at_ x1 i).Do = 0
        · obtain ⟨r, er, Cr⟩ := keyU C (by omega) ok.2.1.2
          rw [if_pos d0, er, Option.bind_some]
          exact ih (i + 1) n m _ h (by omega) (by omega) (by omega) n0 (by omega) m0 (by omega) (hi1 ▸ Cr) H
        · rw [if_neg d0]
          have work : side_Client_work.m KK c = some c := by
            unfold side_Client_work.m
            have : side_Client_work.l1.m KK c (1048575 + 1) = some () := by
              rw [side_Client_work.l1.m, C.td, if_neg (by simp)]
            rw [show side_Client_work.l1.m KK c KK = some () from this]
            rfl
          obtain ⟨ps, sd, ep, S1, S2, S3, S4, S5, S6, S7⟩ := packsU (sd := (⟨c.side'.key', (⟨c.side'.gate'.Key, c.side'.gate'.Dir, c.side'.gate'.Seen, c.side'.gate'.Peer⟩ : roam_Gate), c.side'.line', c.side'.dir', c.side'.seq'⟩ : side_side)) hk wk (.inl rfl) C.ln C.k C.d C.sq n0 (by omega)
          obtain ⟨qs, sh, eq, T1, T2, T3, T4, T5, T6, T7⟩ := packsU (sd := h.side') hk wk (.inr rfl) H.ln H.k H.d H.sq m0 (by omega)
          unfold side_Client_Tick.m side_Host_Tick.m
          rw [work, Option.bind_some, ep, Option.bind_some, Option.bind_some, eq, Option.bind_some, Option.bind_some,
            chk2 hk wk (by simp only [outs_len]; exact S6) ps KK n 0 (by unfold KK; omega) (by omega) rfl (fun p hp => (S7 p hp).1) n0 (by omega), Option.bind_some,
            chk3 hk wk (by simp only [outs_len]; exact T6) qs KK m 0 (by unfold KK; omega) (by omega) rfl (fun p hp => (T7 p hp).1) m0 (by omega), Option.bind_some]
          refine ih (i + 1) _ _ _ _ (by omega) (by omega) (by omega) (by omega) (by omega) (by omega) (by omega) ?_ ?_
          · have U := C.up
            exact ⟨C.u, C.n24, S1, by show sd.line'.queue'.length ≤ _; rw [S2]; rw [hi1]; exact U.ql, S3, S4, S5, C.td, by rw [hi1]; exact U.st, by rw [hi1]; exact U.ev⟩
          · exact ⟨T1, T3, T4, T5⟩
    · rw [if_neg h3]
theorem few_lS {x1 : List shutterlaw25_Act} : ∀ (k : Nat) (i : Int), 0 ≤ i → i ≤ 100 → 100 - i < k → ∃ q, shutterlaw25_few.l1.m KK x1 k i = some q ∧ (∀ b, q = .inl b → b = false) ∧ (q = .inr () → ∀ j : Int, i ≤ j → j < 100 → j < (x1.length : Int) → FewO (at_ x1 j).Out) := by
  intro k
  induction k with
  | zero => intro i _ _ h; omega
  | succ k ih =>
    intro i i0 i1 hk
    rw [shutterlaw25_few.l1.m]
    by_cases h3 : i < (x1.length : Int)
    · rw [if_pos h3]
      by_cases h4 : i < 100
      · obtain ⟨b, eb, hb⟩ := few_eq (at_ x1 i).Out
        have eb' : shutterref08_Few.m KK (⟨((at_ x1 i).Out).Cmd, (((at_ x1 i).Out).Wcc), ((at_ x1 i).Out).Orders⟩ : api_Out) = some b := eb
        rw [if_pos h4, if_pos i0, eb', Option.bind_some]
        cases b with
        | false => exact ⟨_, rfl, fun b h => by cases h; rfl, fun h => by cases h⟩
        | true =>
          rw [cond_true, w64_id (n := i + 1) (by omega) (by omega)]
          obtain ⟨q, e, h1, h2⟩ := ih (i + 1) (by omega) (by omega) (by omega)
          refine ⟨q, e, h1, fun hq j j0 j1 j2 => ?_⟩
          by_cases hj : j = i
          · subst hj; exact hb rfl
          · exact h2 hq j (by omega) j1 j2
      · rw [if_neg h4]
        exact ⟨_, rfl, fun b h => (by cases h), fun _ j j0 j1 j2 => by omega⟩
    · rw [if_neg h3]
      exact ⟨_, rfl, fun b h => (by cases h), fun _ j j0 j1 j2 => by omega⟩
theorem fewS (x1 : List shutterlaw25_Act) : ∃ b, shutterlaw25_few.m KK x1 = some b ∧ (b = true → x1.length ≤ 60 ∧ ∀ y ∈ x1, FewO y.Out) := by
  unfold shutterlaw25_few.m
  obtain ⟨q, e1, e2, e3⟩ := few_lS (x1 := x1) KK 0 (by omega) (by omega) (by unfold KK; omega)
  rw [e1, Option.bind_some]
  cases q with
  | inl b => exact ⟨b, rfl, fun h => by have := e2 b rfl; rw [this] at h; cases h⟩
  | inr w =>
    refine ⟨_, rfl, fun h => ?_⟩
    have hn : (x1.length : Int) ≤ 60 := of_decide_eq_true h
    refine ⟨by omega, fun y hy => ?_⟩
    obtain ⟨j, hj, rfl⟩ := List.getElem_of_mem hy
    have := e3 rfl (j : Int) (by omega) (by omega) (by omega)
    rw [at_eq (hi := by simpa using hj)] at this
    simpa using this
theorem pair_eq {key : List Int} (hk : key.length ≤ 100) : ∃ c h, shutterlaw25_pair.m key 3 8 = some (c, h, true) ∧ CL key 0 0 c ∧ HL key 0 h := by
  have ln : LN ⟨[], 0, 1, [], [], 1, 0, false⟩ := ⟨by simp, by simp, rfl, rfl, rfl, by decide, by decide, by decide, by decide⟩
  have us : US ⟨3, 8, List.replicate 24 ⟨false, ⟨false, false, 0, false⟩, 0⟩, 0, false, false⟩ := by
    refine ⟨by simp, by simp, by decide, by decide, fun c hc => ?_, by decide, by simp⟩
    rw [(List.mem_replicate.1 hc).2]; exact okz
  have gn : grid_New.m 3 8 = some (⟨3, 8, List.replicate 24 ⟨false, ⟨false, false, 0, false⟩, 0⟩, 0, false, false⟩, .nil) := by
    unfold grid_New.m mk
    rw [if_neg (by decide), if_neg (by decide), if_neg (by decide), if_pos (by decide), if_neg (by decide), show w64 (3 * 8) = 24 from by decide, if_pos (by unfold Lim; decide)]
    rfl
  unfold shutterlaw25_pair.m side_NewClient.m side_NewHost.m side_made.m line_New.m grid_Size.m
  rw [gn]
  simp only [Option.bind_some, if_true, List.length_replicate, clone_b (show key.length ≤ 100000 by omega)]
  rw [if_neg (by decide)]
  simp only [Option.bind_some, if_true]
  exact ⟨_, _, rfl, ⟨us, by simp, ln, by simp, rfl, rfl, rfl, rfl, by simp, by simp⟩, ⟨ln, rfl, rfl, rfl⟩⟩
theorem awake25S : shutterlaw25_awake.m KK = some true := by kernel_rfl
theorem SideSeals_true (x0 : List Int) (x1 : List shutterlaw25_Act) (w0 : ∀ y ∈ x0, Wf .u8 y) (_ : x0.length ≤ maxLen) (w1 : ∀ y ∈ x1, ok_shutterlaw25_Act y) (_ : x1.length ≤ maxLen) : shutterlaw25_SideSeals.m KK x0 x1 = some true := by
  unfold shutterlaw25_SideSeals.m
  simp only [awake25S, Option.bind_some, cond_true]
  by_cases hl : (x0.length : Int) > 100
  · rw [if_pos hl]
  rw [if_neg hl]
  obtain ⟨b, eb, hb⟩ := fewS x1
  rw [eb, Option.bind_some]
  cases b with
  | false => rfl
  | true =>
    obtain ⟨hn, hf⟩ := hb rfl
    have hk : x0.length ≤ 100 := by omega
    obtain ⟨c, h, ep, C, H⟩ := pair_eq hk
    rw [cond_true, ep, Option.bind_some]
    simp only [cond_true]
    rw [seals_l hk w0 hn w1 hf KK 0 0 0 c h (by omega) (by omega) (by unfold KK; omega) (by omega) (by omega) (by omega) (by omega) C H]
    rfl
end Go.Proofs.YtjkbhpokboolpaaGreatDoor.Sx
