/- Printed walks, part 0: each function's model, and that the code comes to it. -/
import Derived.Test.YtpkcckaaocannaaDoorProg
import Derived.Test.YtpkcckaaocannaaDoorV4
import Derived.Test.YtpkcckaaocannaaDoorV5
namespace Go.Proofs.YtpkcckaaocannaaDoor.Sx
open Go
set_option maxRecDepth 100000
set_option maxHeartbeats 4000000

structure api_Frame where
  Dir : Int
  Seq : Int
  Body : (List Int)
  deriving DecidableEq, Inhabited

def t_api_Frame : Ty api_Frame where
  size := 3
  rep I h cs x := ∃ a_2, ∃ c_2, ∃ n_2, cs = [.int .i64 x.Dir, .int .i64 x.Seq, .slice a_2 n_2 c_2] ∧ (Rd (tInt .u8) I h a_2 c_2 x.Body ∧ x.Body.length = n_2)
  len := by rintro _ _ _ _ ⟨_, _, _, rfl, _⟩; rfl
  one := by
    rintro _ _ _ _ ⟨e0, e1, e2, rfl, q0⟩ v hv
    simp only [List.mem_cons, List.not_mem_nil, or_false] at hv
    rcases hv with rfl | rfl | rfl
    · exact rfl
    · exact rfl
    · exact rfl
  up := by rintro _ _ _ _ _ _ u ⟨e0, e1, e2, rfl, q0⟩; exact ⟨e0, e1, e2, rfl, ⟨q0.1.up u, q0.2⟩⟩
theorem t_api_Frame.open_ {I : Gh} {h : Heap} {cs : List Value} {x : api_Frame} (r : t_api_Frame.rep I h cs x) : ∃ a_2, ∃ c_2, ∃ n_2, cs = [.int .i64 x.Dir, .int .i64 x.Seq, .slice a_2 n_2 c_2] ∧ (Rd (tInt .u8) I h a_2 c_2 x.Body ∧ x.Body.length = n_2) := r

structure hash_Sum where
  h' : (List Int)
  rest' : (List Int)
  n' : Int
  deriving DecidableEq, Inhabited

def t_hash_Sum : Ty hash_Sum where
  size := 10
  rep I h cs x := ∃ a_1, ∃ c_1, ∃ n_1, cs = [.int .u32 (at_ x.h' 0), .int .u32 (at_ x.h' 1), .int .u32 (at_ x.h' 2), .int .u32 (at_ x.h' 3), .int .u32 (at_ x.h' 4), .int .u32 (at_ x.h' 5), .int .u32 (at_ x.h' 6), .int .u32 (at_ x.h' 7), .slice a_1 n_1 c_1, .int .u64 x.n'] ∧ List.length x.h' = 8 ∧ (Rd (tInt .u8) I h a_1 c_1 x.rest' ∧ x.rest'.length = n_1)
  len := by rintro _ _ _ _ ⟨_, _, _, rfl, _, _⟩; rfl
  one := by
    rintro _ _ _ _ ⟨e0, e1, e2, rfl, q0, q1⟩ v hv
    simp only [List.mem_cons, List.not_mem_nil, or_false] at hv
    rcases hv with rfl | rfl | rfl | rfl | rfl | rfl | rfl | rfl | rfl | rfl
    · exact rfl
    · exact rfl
    · exact rfl
    · exact rfl
    · exact rfl
    · exact rfl
    · exact rfl
    · exact rfl
    · exact rfl
    · exact rfl
  up := by rintro _ _ _ _ _ _ u ⟨e0, e1, e2, rfl, q0, q1⟩; exact ⟨e0, e1, e2, rfl, q0, ⟨q1.1.up u, q1.2⟩⟩
theorem t_hash_Sum.open_ {I : Gh} {h : Heap} {cs : List Value} {x : hash_Sum} (r : t_hash_Sum.rep I h cs x) : ∃ a_1, ∃ c_1, ∃ n_1, cs = [.int .u32 (at_ x.h' 0), .int .u32 (at_ x.h' 1), .int .u32 (at_ x.h' 2), .int .u32 (at_ x.h' 3), .int .u32 (at_ x.h' 4), .int .u32 (at_ x.h' 5), .int .u32 (at_ x.h' 6), .int .u32 (at_ x.h' 7), .slice a_1 n_1 c_1, .int .u64 x.n'] ∧ List.length x.h' = 8 ∧ (Rd (tInt .u8) I h a_1 c_1 x.rest' ∧ x.rest'.length = n_1) := r

structure api_Seen where
  Top : Int
  Bits : Int
  deriving DecidableEq, Inhabited

def t_api_Seen : Ty api_Seen where
  size := 2
  rep I h cs x := cs = [.int .i64 x.Top, .int .u64 x.Bits]
  len := by rintro _ _ _ _ rfl; rfl
  one := by
    rintro _ _ _ _ rfl v hv
    simp only [List.mem_cons, List.not_mem_nil, or_false] at hv
    rcases hv with rfl | rfl
    · exact rfl
    · exact rfl
  up := by intro _ _ _ _ _ _ _ e; exact e
theorem t_api_Seen.open_ {I : Gh} {h : Heap} {cs : List Value} {x : api_Seen} (r : t_api_Seen.rep I h cs x) : cs = [.int .i64 x.Top, .int .u64 x.Bits] := r

structure api_Peer where
  Addr : ByteArray
  Seq : Int
  deriving DecidableEq, Inhabited

def t_api_Peer : Ty api_Peer where
  size := 2
  rep I h cs x := cs = [.string x.Addr, .int .i64 x.Seq]
  len := by rintro _ _ _ _ rfl; rfl
  one := by
    rintro _ _ _ _ rfl v hv
    simp only [List.mem_cons, List.not_mem_nil, or_false] at hv
    rcases hv with rfl | rfl
    · exact rfl
    · exact rfl
  up := by intro _ _ _ _ _ _ _ e; exact e
theorem t_api_Peer.open_ {I : Gh} {h : Heap} {cs : List Value} {x : api_Peer} (r : t_api_Peer.rep I h cs x) : cs = [.string x.Addr, .int .i64 x.Seq] := r

structure roam_Gate where
  Key : (List Int)
  Dir : Int
  Seen : api_Seen
  Peer : api_Peer
  deriving DecidableEq, Inhabited

def t_roam_Gate : Ty roam_Gate where
  size := 6
  rep I h cs x := ∃ a_0, ∃ c_0, ∃ n_0, cs = [.slice a_0 n_0 c_0, .int .i64 x.Dir, .int .i64 x.Seen.Top, .int .u64 x.Seen.Bits, .string x.Peer.Addr, .int .i64 x.Peer.Seq] ∧ (Rd (tInt .u8) I h a_0 c_0 x.Key ∧ x.Key.length = n_0)
  len := by rintro _ _ _ _ ⟨_, _, _, rfl, _⟩; rfl
  one := by
    rintro _ _ _ _ ⟨e0, e1, e2, rfl, q0⟩ v hv
    simp only [List.mem_cons, List.not_mem_nil, or_false] at hv
    rcases hv with rfl | rfl | rfl | rfl | rfl | rfl
    · exact rfl
    · exact rfl
    · exact rfl
    · exact rfl
    · exact rfl
    · exact rfl
  up := by rintro _ _ _ _ _ _ u ⟨e0, e1, e2, rfl, q0⟩; exact ⟨e0, e1, e2, rfl, ⟨q0.1.up u, q0.2⟩⟩
theorem t_roam_Gate.open_ {I : Gh} {h : Heap} {cs : List Value} {x : roam_Gate} (r : t_roam_Gate.rep I h cs x) : ∃ a_0, ∃ c_0, ∃ n_0, cs = [.slice a_0 n_0 c_0, .int .i64 x.Dir, .int .i64 x.Seen.Top, .int .u64 x.Seen.Bits, .string x.Peer.Addr, .int .i64 x.Peer.Seq] ∧ (Rd (tInt .u8) I h a_0 c_0 x.Key ∧ x.Key.length = n_0) := r

structure shutterlaw21_Mail where
  Seq : Int
  From : ByteArray
  Forged : Bool
  deriving DecidableEq, Inhabited

def t_shutterlaw21_Mail : Ty shutterlaw21_Mail where
  size := 3
  rep I h cs x := cs = [.int .u16 x.Seq, .string x.From, .bool x.Forged]
  len := by rintro _ _ _ _ rfl; rfl
  one := by
    rintro _ _ _ _ rfl v hv
    simp only [List.mem_cons, List.not_mem_nil, or_false] at hv
    rcases hv with rfl | rfl | rfl
    · exact rfl
    · exact rfl
    · exact rfl
  up := by intro _ _ _ _ _ _ _ e; exact e
theorem t_shutterlaw21_Mail.open_ {I : Gh} {h : Heap} {cs : List Value} {x : shutterlaw21_Mail} (r : t_shutterlaw21_Mail.rep I h cs x) : cs = [.int .u16 x.Seq, .string x.From, .bool x.Forged] := r

/-! shutter/shutterref01.Word -/
def shutterref01_Word.l1.m (K : Nat) (x0 : ByteArray) (x1 : Int) : Nat → Int → Int → Option (Int)
  | 0, _, _ => none
  | k + 1, x21, x22 => (if x22 < (w64 ((w64 (8 * x1)) + 8)) then (if 0 ≤ x22 then (if x22 < (x0.size : Int) then (if (bt x0 x22) ≥ 97 then (shutterref01_Word.l1.m K x0 x1 k (w64 ((w64 (16 * x21)) + (w64 ((w64 ((bt x0 x22))) - 87)))) (w64 (x22 + 1))) else (shutterref01_Word.l1.m K x0 x1 k (w64 ((w64 (16 * x21)) + (w64 ((w64 ((bt x0 x22))) - 48)))) (w64 (x22 + 1)))) else none) else none) else (some (x21)))
def shutterref01_Word.m (K : Nat) (x0 : ByteArray) (x1 : Int) : Option Int :=
  ((shutterref01_Word.l1.m K x0 x1 K 0 (w64 (8 * x1))).bind fun x24 => (some x24))

theorem shutterref01_Word.calls {K : Nat} {x0 : ByteArray} {x1 : Int} {h : Heap} {r : Int} (H : shutterref01_Word.m K x0 x1 = some r)   :
    Ret Tryd.prog 91 #[.string x0, .int .i64 x1] h (fun v h' => .int .i64 r = v ∧ h' = h) := by
 unfold shutterref01_Word.m at H
 refine fn_of (args := [.string x0, .int .i64 x1]) (rs := [.tmp 4]) (N := 36) Tryd.func91 rfl rfl rfl rfl ?_
 refine st 16 [] ?_
 obtain ⟨s23, m26, HR25⟩ := bind_some H
 refine k_loop 0 (fun k' ρ h1 => ∃ (x21 : Int) (x22 : Int), shutterref01_Word.l1.m K x0 x1 k' x21 x22 = some s23 ∧ Fits [(0, .string x0), (1, .int .i64 x1), (5, .int .i64 x21), (6, .int .i64 x22)] ρ ∧ h = h1) (fun ρ h1 => ∃ (x24 : Int), x24 = s23 ∧ Fits [(5, .int .i64 x24)] ρ ∧ h = h1) K ⟨0, (w64 (8 * x1)), m26, ⟨by kernel_rfl, by kernel_rfl, by kernel_rfl, by kernel_rfl, trivial⟩, rfl⟩ ?_ rfl ?_
 ·clear HR25 m26 H
  rintro k' ρ h1 ⟨x21, x22, H, hf, rfl⟩
  cases k' with
  | zero => cases H
  | succ k =>
   rw [shutterref01_Word.l1.m] at H
   refine k_fits _ hf ?_ rfl
   refine st 7 [] (k_ite H (fun c27 H => ?_) (fun c27 H => ?_))
   ·obtain ⟨c28, H⟩ := guard_pos H
    obtain ⟨c29, H⟩ := guard_pos H
    refine st 9 [true] (k_val (.int .u8 (bt x0 x22)) (pr_indexStr (s := x0) (k := .i64) (i := x22) (by kernel_rfl) (by kernel_rfl) (by kernel_rfl) c28 c29) ?_)
    refine st 9 [] (k_val (.int .u8 (bt x0 x22)) (pr_indexStr (s := x0) (k := .i64) (i := x22) (by kernel_rfl) (by kernel_rfl) (by kernel_rfl) c28 c29) ?_)
    refine k_ite H (fun c30 H => ?_) (fun c30 H => ?_)
    ·refine st 5 [true] (k_val (.int .u8 (bt x0 x22)) (pr_indexStr (s := x0) (k := .i64) (i := x22) (by kernel_rfl) (by kernel_rfl) (by kernel_rfl) c28 c29) ?_)
     refine st 17 [] ?_
     exact k_endL ⟨k, Nat.lt_succ_self _, (w64 ((w64 (16 * x21)) + (w64 ((w64 ((bt x0 x22))) - 87)))), (w64 (x22 + 1)), H, ⟨by kernel_rfl, by kernel_rfl, by kernel_rfl, by kernel_rfl, trivial⟩, rfl⟩
    ·refine st 16 [false] ?_
     exact k_endL ⟨k, Nat.lt_succ_self _, (w64 ((w64 (16 * x21)) + (w64 ((w64 ((bt x0 x22))) - 48)))), (w64 (x22 + 1)), H, ⟨by kernel_rfl, by kernel_rfl, by kernel_rfl, by kernel_rfl, trivial⟩, rfl⟩
   ·refine st 2 [false] ?_
    refine k_out rfl ?_
    obtain rfl := Option.some.inj H
    exact xE ⟨x21, rfl, ⟨by kernel_rfl, trivial⟩, rfl⟩
 ·rintro ρ h1 ⟨x24, rfl, hf, rfl⟩
  have H := HR25
  try dsimp only at H
  refine k_fits _ hf ?_ rfl
  refine st 5 [] ?_
  refine k_retQ ?_
  obtain rfl := Option.some.inj H
  exact ⟨_, by kernel_rfl, rfl, rfl⟩

/-! shutter/shutterref01.Fill -/
def shutterref01_Fill.l1.m (K : Nat) : Nat → (List Int) → Option ((List Int))
  | 0, _ => none
  | k + 1, x39 => (if (Int.tmod (x39.length : Int) 64) = 56 then (some (x39)) else ((app x39 [0]).bind fun l55 => (shutterref01_Fill.l1.m K k l55)))
def shutterref01_Fill.l2.m (K : Nat) (x0 : (List Int)) : Nat → (List Int) → Int → Option ((List Int))
  | 0, _, _ => none
  | k + 1, x60, x65 => (if x65 < 8 then (if 0 ≤ (IntKind.u64.wrap ((w64 (56 - (w64 (8 * x65)))))) then ((app x60 [(IntKind.u8.wrap ((bAnd .i64 (shr .i64 (w64 (8 * (x0.length : Int))) (IntKind.u64.wrap ((w64 (56 - (w64 (8 * x65))))))) 255)))]).bind fun l78 => (shutterref01_Fill.l2.m K x0 k l78 (w64 (x65 + 1)))) else none) else (some (x60)))
def shutterref01_Fill.m (K : Nat) (x0 : (List Int)) : Option (List Int) :=
  ((app [] x0).bind fun l27 => ((app l27 [128]).bind fun l34 => ((shutterref01_Fill.l1.m K K l34).bind fun x45 => ((shutterref01_Fill.l2.m K x0 K x45 0).bind fun x67 => (some x67)))))

theorem shutterref01_Fill.calls {B I : Gh} {h : Heap} {K : Nat} {x0 : (List Int)} {a21 : Option Addr} {p22 : Nat} {n23 : Nat} {r : (List Int)} (H : shutterref01_Fill.m K x0 = some r)  :
    Fc Tryd.prog 92 #[.slice a21 n23 p22] [rR (tInt .u8) .b a21 p22 n23 x0] B I h (fun v L => ∃ (a83 : Option Addr) (p84 : Nat) (n85 : Nat), v = .slice a83 n85 p84 ∧ L = [rO (tInt .u8) .i a83 p84 n85 r]) := by
 refine fc_of fun E hs => ?_
 unfold shutterref01_Fill.m at H
 obtain rfl := hs.nR d0
 refine fn_of (args := [.slice a21 x0.length p22]) (rs := [.tmp 2]) (N := 37) Tryd.func92 rfl rfl rfl rfl ?_
 refine st 6 [] (k_op (nS (e := 5) hs .i (tInt .u8) ([] : List Int) [] 1 (.int .u8 0) (Reps.int (I := (Cl.G .i E.B I)) (k := .u8) (l := [])) ?_))
 intro b25 h hs
 obtain ⟨l27, m28, H⟩ := bind_some H
 refine st 1 [] (k_op (aO (e := 5) (bytes := 1) hs ((hs.sR d1).flat flat_int) m28 ?_))
 intro a29 p30 h hs
 refine k_op (nS (e := 5) hs .i (tInt .u8) ([128] : List Int) [.int .u8 128] 1 (.int .u8 0) (Reps.int (I := (Cl.G .i E.B I)) (k := .u8) (l := [128])) ?_)
 intro b32 h hs
 replace hs := (hs.f d1)
 obtain ⟨l34, m35, H⟩ := bind_some H
 refine k_op (aO (e := 5) (bytes := 1) hs (hs.sO d1) m35 ?_)
 intro a36 p37 h hs
 refine st 4 [] ?_
 obtain ⟨s44, m51, HR50⟩ := bind_some H
 refine k_loop 0 (fun k' ρ h => ∃ (x39 : List Int) (a40 : Option Addr) (p41 : Nat) (n42 : Nat) (I : Gh), shutterref01_Fill.l1.m K k' x39 = some s44 ∧ Fits [(0, .slice a21 x0.length p22), (3, .slice a40 n42 p41)] ρ ∧ St E [rR (tInt .u8) .b a21 p22 x0.length x0, rO (tInt .u8) .i a40 p41 n42 x39] I h) (fun ρ h => ∃ (x45 : List Int) (a46 : Option Addr) (p47 : Nat) (n48 : Nat) (I : Gh), x45 = s44 ∧ Fits [(0, .slice a21 x0.length p22), (3, .slice a46 n48 p47)] ρ ∧ St E [rR (tInt .u8) .b a21 p22 x0.length x0, rO (tInt .u8) .i a46 p47 n48 x45] I h) K ⟨l34, a36, p37, l34.length, I, m51, ⟨by kernel_rfl, by kernel_rfl, trivial⟩, hs.pk (.c d2 (.c d0 .n))⟩ ?_ rfl ?_
 ·clear HR50 m51 H
  rintro k' ρ h ⟨x39, a40, p41, n42, I, H, hf, hs⟩
  cases k' with
  | zero => cases H
  | succ k =>
   rw [shutterref01_Fill.l1.m] at H
   refine k_fits _ hf ?_ rfl
   obtain rfl := hs.nO d1
   refine st 6 [] (k_iteN H (fun c52 H => ?_) (fun c52 H => ?_))
   ·refine st 2 [false] ?_
    refine k_out rfl ?_
    obtain rfl := Option.some.inj H
    exact xE ⟨x39, a40, p41, x39.length, I, rfl, ⟨by kernel_rfl, by kernel_rfl, trivial⟩, hs.pk (.c d0 (.c d0 .n))⟩
   ·refine st 6 [true] (k_op (nS (e := 5) hs .i (tInt .u8) ([0] : List Int) [.int .u8 0] 1 (.int .u8 0) (Reps.int (I := (Cl.G .i E.B I)) (k := .u8) (l := [0])) ?_))
    intro b53 h hs
    replace hs := (hs.f d2)
    obtain ⟨l55, m56, H⟩ := bind_some H
    refine k_op (aO (e := 5) (bytes := 1) hs (hs.sO d1) m56 ?_)
    intro a57 p58 h hs
    refine st 3 [] ?_
    exact k_endL ⟨k, Nat.lt_succ_self _, l55, a57, p58, l55.length, I, H, ⟨by kernel_rfl, by kernel_rfl, trivial⟩, hs.pk (.c d2 (.c d0 .n))⟩
 ·rintro ρ h ⟨x45, a46, p47, n48, I, rfl, hf, hs⟩
  have H := HR50
  try dsimp only at H
  refine k_fits _ hf ?_ rfl
  obtain rfl := hs.nO d1
  refine st 13 [] ?_
  obtain ⟨s66, m73, HR72⟩ := bind_some H
  refine k_loop 2 (fun k' ρ h => ∃ (x60 : List Int) (x65 : Int) (a61 : Option Addr) (p62 : Nat) (n63 : Nat) (I : Gh), shutterref01_Fill.l2.m K x0 k' x60 x65 = some s66 ∧ Fits [(3, .slice a61 n63 p62), (4, .int .i64 (w64 (8 * (x0.length : Int)))), (5, .int .i64 x65)] ρ ∧ St E [rO (tInt .u8) .i a61 p62 n63 x60] I h) (fun ρ h => ∃ (x67 : List Int) (a68 : Option Addr) (p69 : Nat) (n70 : Nat) (I : Gh), x67 = s66 ∧ Fits [(3, .slice a68 n70 p69)] ρ ∧ St E [rO (tInt .u8) .i a68 p69 n70 x67] I h) K ⟨x45, 0, a46, p47, x45.length, I, m73, ⟨by kernel_rfl, by kernel_rfl, by kernel_rfl, trivial⟩, hs.pk (.c d1 .n)⟩ ?_ rfl ?_
  ·clear HR72 m73 H
   rintro k' ρ h ⟨x60, x65, a61, p62, n63, I, H, hf, hs⟩
   cases k' with
   | zero => cases H
   | succ k =>
    rw [shutterref01_Fill.l2.m] at H
    refine k_fits _ hf ?_ rfl
    obtain rfl := hs.nO d0
    refine st 4 [] (k_ite H (fun c74 H => ?_) (fun c74 H => ?_))
    ·obtain ⟨c75, H⟩ := guard_pos H
     refine st 12 [true] (k_val (.int .i64 (shr .i64 (w64 (8 * (x0.length : Int))) (IntKind.u64.wrap ((w64 (56 - (w64 (8 * x65)))))))) (pr_shr (k := .i64) (yk := .u64) (a := (w64 (8 * (x0.length : Int)))) (b := (IntKind.u64.wrap ((w64 (56 - (w64 (8 * x65))))))) (by kernel_rfl) (by kernel_rfl) c75) ?_)
     refine st 2 [] (k_op (nS (e := 5) hs .i (tInt .u8) ([(IntKind.u8.wrap ((bAnd .i64 (shr .i64 (w64 (8 * (x0.length : Int))) (IntKind.u64.wrap ((w64 (56 - (w64 (8 * x65))))))) 255)))] : List Int) [.int .u8 (IntKind.u8.wrap ((bAnd .i64 (shr .i64 (w64 (8 * (x0.length : Int))) (IntKind.u64.wrap ((w64 (56 - (w64 (8 * x65))))))) 255)))] 1 (.int .u8 0) (Reps.int (I := (Cl.G .i E.B I)) (k := .u8) (l := [(IntKind.u8.wrap ((bAnd .i64 (shr .i64 (w64 (8 * (x0.length : Int))) (IntKind.u64.wrap ((w64 (56 - (w64 (8 * x65))))))) 255)))])) ?_))
     intro b76 h hs
     replace hs := (hs.f d1)
     obtain ⟨l78, m79, H⟩ := bind_some H
     refine k_op (aO (e := 5) (bytes := 1) hs (hs.sO d1) m79 ?_)
     intro a80 p81 h hs
     refine st 8 [] ?_
     exact k_endL ⟨k, Nat.lt_succ_self _, l78, (w64 (x65 + 1)), a80, p81, l78.length, I, H, ⟨by kernel_rfl, by kernel_rfl, by kernel_rfl, trivial⟩, hs.pk (.c d0 .n)⟩
    ·refine st 2 [false] ?_
     refine k_out rfl ?_
     obtain rfl := Option.some.inj H
     exact xE ⟨x60, a61, p62, x60.length, I, rfl, ⟨by kernel_rfl, trivial⟩, hs.pk (.c d0 .n)⟩
  ·rintro ρ h ⟨x67, a68, p69, n70, I, rfl, hf, hs⟩
   have H := HR72
   try dsimp only at H
   refine k_fits _ hf ?_ rfl
   obtain rfl := hs.nO d0
   refine st 5 [] ?_
   refine k_retQ ?_
   obtain rfl := Option.some.inj H
   exact ⟨_, by kernel_rfl, I, _, ⟨a68, p69, x67.length, rfl, rfl⟩, hs.pk (.c d0 .n)⟩

/-! shutter/shutterref01.turn -/
def shutterref01_turn.m (x0 : Int) (x1 : Int) : Option Int :=
  (if 0 ≤ (IntKind.u64.wrap (x1)) then (if 0 ≤ (IntKind.u64.wrap ((w64 (32 - x1)))) then (some (bAnd .i64 (bOr .i64 (shr .i64 x0 (IntKind.u64.wrap (x1))) (shl .i64 x0 (IntKind.u64.wrap ((w64 (32 - x1)))))) 4294967295)) else none) else none)

theorem shutterref01_turn.calls {x0 : Int} {x1 : Int} {h : Heap} {r : Int} (H : shutterref01_turn.m x0 x1 = some r)   :
    Ret Tryd.prog 98 #[.int .i64 x0, .int .i64 x1] h (fun v h' => .int .i64 r = v ∧ h' = h) := by
 unfold shutterref01_turn.m at H
 refine fn_of (args := [.int .i64 x0, .int .i64 x1]) (rs := [.tmp 4]) (N := 16) Tryd.func98 rfl rfl rfl rfl ?_
 obtain ⟨c21, H⟩ := guard_pos H
 refine st 9 [] (k_val (.int .i64 (shr .i64 x0 (IntKind.u64.wrap (x1)))) (pr_shr (k := .i64) (yk := .u64) (a := x0) (b := (IntKind.u64.wrap (x1))) (by kernel_rfl) (by kernel_rfl) c21) ?_)
 obtain ⟨c22, H⟩ := guard_pos H
 refine st 4 [] (k_val (.int .i64 (shl .i64 x0 (IntKind.u64.wrap ((w64 (32 - x1)))))) (pr_shl (k := .i64) (yk := .u64) (a := x0) (b := (IntKind.u64.wrap ((w64 (32 - x1))))) (by kernel_rfl) (by kernel_rfl) c22) ?_)
 refine st 4 [] ?_
 refine k_retQ ?_
 obtain rfl := Option.some.inj H
 exact ⟨_, by kernel_rfl, rfl, rfl⟩

/-! shutter/shutterref01.both -/
def shutterref01_both.m (x0 : Int) (x1 : Int) : Option Int :=
  (some (bAnd .i64 x0 x1))

theorem shutterref01_both.calls {x0 : Int} {x1 : Int} {h : Heap} {r : Int} (H : shutterref01_both.m x0 x1 = some r)   :
    Ret Tryd.prog 99 #[.int .i64 x0, .int .i64 x1] h (fun v h' => .int .i64 r = v ∧ h' = h) := by
 unfold shutterref01_both.m at H
 refine fn_of (args := [.int .i64 x0, .int .i64 x1]) (rs := [.tmp 4]) (N := 8) Tryd.func99 rfl rfl rfl rfl ?_
 refine st 11 [] ?_
 refine k_retQ ?_
 obtain rfl := Option.some.inj H
 exact ⟨_, by kernel_rfl, rfl, rfl⟩

/-! shutter/shutterref01.Block -/
def shutterref01_Block.l1.m (K : Nat) (x1 : (List Int)) : Nat → (List Int) → Int → Option ((List Int))
  | 0, _, _ => none
  | k + 1, x28, x33 => (if x33 < 64 then (letJ (α := Bool → Option ((List Int))) (fun (x44 : Bool) => (bif x44 then (if 0 ≤ (w64 (4 * x33)) then (if (w64 (4 * x33)) < (x1.length : Int) then (if 0 ≤ (w64 ((w64 (4 * x33)) + 1)) then (if (w64 ((w64 (4 * x33)) + 1)) < (x1.length : Int) then (if 0 ≤ (w64 ((w64 (4 * x33)) + 2)) then (if (w64 ((w64 (4 * x33)) + 2)) < (x1.length : Int) then (if 0 ≤ (w64 ((w64 (4 * x33)) + 3)) then (if (w64 ((w64 (4 * x33)) + 3)) < (x1.length : Int) then ((app x28 [(w64 ((w64 ((w64 ((w64 (16777216 * (w64 ((at_ x1 (w64 (4 * x33))))))) + (w64 (65536 * (w64 ((at_ x1 (w64 ((w64 (4 * x33)) + 1))))))))) + (w64 (256 * (w64 ((at_ x1 (w64 ((w64 (4 * x33)) + 2))))))))) + (w64 ((at_ x1 (w64 ((w64 (4 * x33)) + 3)))))))]).bind fun l56 => (shutterref01_Block.l1.m K x1 k l56 (w64 (x33 + 1)))) else none) else none) else none) else none) else none) else none) else none) else none) else (if 0 ≤ (w64 (x33 - 15)) then (if (w64 (x33 - 15)) < (x28.length : Int) then (if 0 ≤ (w64 (x33 - 2)) then (if (w64 (x33 - 2)) < (x28.length : Int) then ((shutterref01_turn.m (at_ x28 (w64 (x33 - 15))) 7).bind fun t65 => ((shutterref01_turn.m (at_ x28 (w64 (x33 - 15))) 18).bind fun t66 => ((shutterref01_turn.m (at_ x28 (w64 (x33 - 2))) 17).bind fun t67 => ((shutterref01_turn.m (at_ x28 (w64 (x33 - 2))) 19).bind fun t68 => (if 0 ≤ (w64 (x33 - 7)) then (if (w64 (x33 - 7)) < (x28.length : Int) then (if 0 ≤ (w64 (x33 - 16)) then (if (w64 (x33 - 16)) < (x28.length : Int) then ((app x28 [(Int.tmod (w64 ((w64 ((w64 ((bXor .i64 (bXor .i64 t67 t68) (shr .i64 (at_ x28 (w64 (x33 - 2))) 10)) + (at_ x28 (w64 (x33 - 7))))) + (bXor .i64 (bXor .i64 t65 t66) (shr .i64 (at_ x28 (w64 (x33 - 15))) 3)))) + (at_ x28 (w64 (x33 - 16))))) 4294967296)]).bind fun l75 => (shutterref01_Block.l1.m K x1 k l75 (w64 (x33 + 1)))) else none) else none) else none) else none))))) else none) else none) else none) else none))) fun (j45 : Bool → Option ((List Int))) => (if x33 < 16 then (j45 true) else (j45 false))) else (some (x28)))
def shutterref01_Block.l2.m (K : Nat) (x35 : List Int) : Nat → Int → (List Int) → Option ((List Int))
  | 0, _, _ => none
  | k + 1, x82, x84 => (if x82 < 64 then ((shutterref01_turn.m (at_ x84 4) 6).bind fun t91 => ((shutterref01_turn.m (at_ x84 4) 11).bind fun t92 => ((shutterref01_turn.m (at_ x84 4) 25).bind fun t93 => ((shutterref01_both.m (at_ x84 4) (at_ x84 5)).bind fun t94 => ((shutterref01_both.m (w64 (4294967295 - (at_ x84 4))) (at_ x84 6)).bind fun t95 => (if 0 ≤ x82 then (if x82 < (x35.length : Int) then ((shutterref01_Word.m K (⟨#[52, 50, 56, 97, 50, 102, 57, 56, 55, 49, 51, 55, 52, 52, 57, 49, 98, 53, 99, 48, 102, 98, 99, 102, 101, 57, 98, 53, 100, 98, 97, 53, 51, 57, 53, 54, 99, 50, 53, 98, 53, 57, 102, 49, 49, 49, 102, 49, 57, 50, 51, 102, 56, 50, 97, 52, 97, 98, 49, 99, 53, 101, 100, 53, 100, 56, 48, 55, 97, 97, 57, 56, 49, 50, 56, 51, 53, 98, 48, 49, 50, 52, 51, 49, 56, 53, 98, 101, 53, 53, 48, 99, 55, 100, 99, 51, 55, 50, 98, 101, 53, 100, 55, 52, 56, 48, 100, 101, 98, 49, 102, 101, 57, 98, 100, 99, 48, 54, 97, 55, 99, 49, 57, 98, 102, 49, 55, 52, 101, 52, 57, 98, 54, 57, 99, 49, 101, 102, 98, 101, 52, 55, 56, 54, 48, 102, 99, 49, 57, 100, 99, 54, 50, 52, 48, 99, 97, 49, 99, 99, 50, 100, 101, 57, 50, 99, 54, 102, 52, 97, 55, 52, 56, 52, 97, 97, 53, 99, 98, 48, 97, 57, 100, 99, 55, 54, 102, 57, 56, 56, 100, 97, 57, 56, 51, 101, 53, 49, 53, 50, 97, 56, 51, 49, 99, 54, 54, 100, 98, 48, 48, 51, 50, 55, 99, 56, 98, 102, 53, 57, 55, 102, 99, 55, 99, 54, 101, 48, 48, 98, 102, 51, 100, 53, 97, 55, 57, 49, 52, 55, 48, 54, 99, 97, 54, 51, 53, 49, 49, 52, 50, 57, 50, 57, 54, 55, 50, 55, 98, 55, 48, 97, 56, 53, 50, 101, 49, 98, 50, 49, 51, 56, 52, 100, 50, 99, 54, 100, 102, 99, 53, 51, 51, 56, 48, 100, 49, 51, 54, 53, 48, 97, 55, 51, 53, 52, 55, 54, 54, 97, 48, 97, 98, 98, 56, 49, 99, 50, 99, 57, 50, 101, 57, 50, 55, 50, 50, 99, 56, 53, 97, 50, 98, 102, 101, 56, 97, 49, 97, 56, 49, 97, 54, 54, 52, 98, 99, 50, 52, 98, 56, 98, 55, 48, 99, 55, 54, 99, 53, 49, 97, 51, 100, 49, 57, 50, 101, 56, 49, 57, 100, 54, 57, 57, 48, 54, 50, 52, 102, 52, 48, 101, 51, 53, 56, 53, 49, 48, 54, 97, 97, 48, 55, 48, 49, 57, 97, 52, 99, 49, 49, 54, 49, 101, 51, 55, 54, 99, 48, 56, 50, 55, 52, 56, 55, 55, 52, 99, 51, 52, 98, 48, 98, 99, 98, 53, 51, 57, 49, 99, 48, 99, 98, 51, 52, 101, 100, 56, 97, 97, 52, 97, 53, 98, 57, 99, 99, 97, 52, 102, 54, 56, 50, 101, 54, 102, 102, 51, 55, 52, 56, 102, 56, 50, 101, 101, 55, 56, 97, 53, 54, 51, 54, 102, 56, 52, 99, 56, 55, 56, 49, 52, 56, 99, 99, 55, 48, 50, 48, 56, 57, 48, 98, 101, 102, 102, 102, 97, 97, 52, 53, 48, 54, 99, 101, 98, 98, 101, 102, 57, 97, 51, 102, 55, 99, 54, 55, 49, 55, 56, 102, 50]⟩ : ByteArray) x82).bind fun t98 => ((shutterref01_turn.m (at_ x84 0) 2).bind fun t99 => ((shutterref01_turn.m (at_ x84 0) 13).bind fun t100 => ((shutterref01_turn.m (at_ x84 0) 22).bind fun t101 => ((shutterref01_both.m (at_ x84 0) (at_ x84 1)).bind fun t102 => ((shutterref01_both.m (at_ x84 0) (at_ x84 2)).bind fun t103 => ((shutterref01_both.m (at_ x84 1) (at_ x84 2)).bind fun t104 => (shutterref01_Block.l2.m K x35 k (w64 (x82 + 1)) [(Int.tmod (w64 ((Int.tmod (w64 ((w64 ((w64 ((w64 ((at_ x84 7) + (bXor .i64 (bXor .i64 t91 t92) t93))) + (bXor .i64 t94 t95))) + t98)) + (at_ x35 x82))) 4294967296) + (Int.tmod (w64 ((bXor .i64 (bXor .i64 t99 t100) t101) + (bXor .i64 (bXor .i64 t102 t103) t104))) 4294967296))) 4294967296), (at_ x84 0), (at_ x84 1), (at_ x84 2), (Int.tmod (w64 ((at_ x84 3) + (Int.tmod (w64 ((w64 ((w64 ((w64 ((at_ x84 7) + (bXor .i64 (bXor .i64 t91 t92) t93))) + (bXor .i64 t94 t95))) + t98)) + (at_ x35 x82))) 4294967296))) 4294967296), (at_ x84 4), (at_ x84 5), (at_ x84 6)])))))))) else none) else none)))))) else (some (x84)))
def shutterref01_Block.l3.m (K : Nat) (x0 : (List Int)) : Nat → Int → (List Int) → Option ((List Int))
  | 0, _, _ => none
  | k + 1, x105, x107 => (if x105 < 8 then (if 0 ≤ x105 then (shutterref01_Block.l3.m K x0 k (w64 (x105 + 1)) (x107.set x105.toNat (Int.tmod (w64 ((at_ x107 x105) + (at_ x0 x105))) 4294967296))) else none) else (some (x107)))
def shutterref01_Block.m (K : Nat) (x0 : (List Int)) (x1 : (List Int)) : Option (List Int) :=
  ((shutterref01_Block.l1.m K x1 K [] 0).bind fun x35 => ((shutterref01_Block.l2.m K x35 K 0 x0).bind fun x87 => ((shutterref01_Block.l3.m K x0 K 0 x87).bind fun x110 => (some x110))))

theorem shutterref01_Block.calls {B I : Gh} {h : Heap} {K : Nat} {x0 : (List Int)} {x1 : (List Int)} {a22 : Option Addr} {p23 : Nat} {n24 : Nat} {r : (List Int)} (H : shutterref01_Block.m K x0 x1 = some r) (hl21 : List.length x0 = 8) :
    Fc Tryd.prog 93 #[.agg (List.map (Value.int .i64) x0).toArray, .slice a22 n24 p23] [rR (tInt .u8) .b a22 p23 n24 x1] B I h (fun v L => v = .agg (List.map (Value.int .i64) r).toArray ∧ L = [] ∧ List.length r = 8) := by
 refine fc_of fun E hs => ?_
 unfold shutterref01_Block.m at H
 obtain rfl := hs.nR d0
 refine fn_of2 (args := [.agg (List.map (Value.int .i64) x0).toArray, .slice a22 x1.length p23]) (rs := [.cell 4 159]) (N := 215) Tryd.func93 rfl rfl rfl rfl ?_
 refine st 2 [] (k_op (nB hs (List.map (Value.int .i64) x0) ?_))
 intro b26 h hs
 refine k_op (nA hs (List.map (Value.int .i64) (List.replicate 8 (0 : Int))) (.agg (List.map (Value.int .i64) (List.replicate 8 (0 : Int))).toArray) ?_)
 intro b27 h hs
 refine st 11 [] ?_
 obtain ⟨s34, m41, HR40⟩ := bind_some H
 refine k_loop 0 (fun k' ρ h => ∃ (x28 : List Int) (x33 : Int) (a29 : Option Addr) (p30 : Nat) (n31 : Nat) (I : Gh), shutterref01_Block.l1.m K x1 k' x28 x33 = some s34 ∧ Fits [(1, .slice a22 x1.length p23), (2, .pointer (some ⟨b26, 0, none⟩)), (4, .pointer (some ⟨b27, 0, none⟩)), (5, .slice a29 n31 p30), (6, .int .i64 x33)] ρ ∧ St E [rR (tInt .u8) .b a22 p23 x1.length x1, rO (tInt .i64) .i a29 p30 n31 x28, rB b26 (List.map (Value.int .i64) x0) 159, rB b27 (List.map (Value.int .i64) (List.replicate 8 (0 : Int))) 159] I h) (fun ρ h => ∃ (x35 : List Int) (a36 : Option Addr) (p37 : Nat) (n38 : Nat) (I : Gh), x35 = s34 ∧ Fits [(2, .pointer (some ⟨b26, 0, none⟩)), (4, .pointer (some ⟨b27, 0, none⟩)), (5, .slice a36 n38 p37)] ρ ∧ St E [rO (tInt .i64) .i a36 p37 n38 x35, rB b26 (List.map (Value.int .i64) x0) 159, rB b27 (List.map (Value.int .i64) (List.replicate 8 (0 : Int))) 159] I h) K ⟨[], 0, none, 0, 0, I, m41, ⟨by kernel_rfl, by kernel_rfl, by kernel_rfl, by kernel_rfl, by kernel_rfl, trivial⟩, hs.pk (.c d2 (.f imON (.c d1 (.c d0 .n))))⟩ ?_ rfl ?_
 ·clear HR40 m41 H
  rintro k' ρ h ⟨x28, x33, a29, p30, n31, I, H, hf, hs⟩
  cases k' with
  | zero => cases H
  | succ k =>
   rw [shutterref01_Block.l1.m] at H
   refine k_fits _ hf ?_ rfl
   obtain rfl := hs.nO d1
   refine st 4 [] (k_ite H (fun c42 H => ?_) (fun c42 H => ?_))
   ·refine st 7 [true] ?_
    obtain ⟨j45, e80, H⟩ := letJ_some H
    refine k_join (fun ρ h => ∃ (x44 : Bool) (I : Gh), j45 x44 = some s34 ∧ Fits [(1, .slice a22 x1.length p23), (2, .pointer (some ⟨b26, 0, none⟩)), (4, .pointer (some ⟨b27, 0, none⟩)), (5, .slice a29 x28.length p30), (6, .int .i64 x33), (27, .bool x44)] ρ ∧ St E [rR (tInt .u8) .b a22 p23 x1.length x1, rO (tInt .i64) .i a29 p30 x28.length x28, rB b26 (List.map (Value.int .i64) x0) 159, rB b27 (List.map (Value.int .i64) (List.replicate 8 (0 : Int))) 159] I h) ?_ ?_
    ·refine st 2 [] (k_ite H (fun c43 H => ?_) (fun c43 H => ?_))
     ·refine st 1 [] ?_
      exact k_end ⟨true, I, H, ⟨by kernel_rfl, by kernel_rfl, by kernel_rfl, by kernel_rfl, by kernel_rfl, by kernel_rfl, trivial⟩, hs.pk (.c d0 (.c d0 (.c d0 (.c d0 .n))))⟩
     ·refine st 1 [] ?_
      exact k_end ⟨false, I, H, ⟨by kernel_rfl, by kernel_rfl, by kernel_rfl, by kernel_rfl, by kernel_rfl, by kernel_rfl, trivial⟩, hs.pk (.c d0 (.c d0 (.c d0 (.c d0 .n))))⟩
    ·clear H
     rintro ρ h ⟨x44, I, H, hf, hs⟩
     refine k_fits _ hf ?_ rfl
     subst e80
     try dsimp only at H
     cases x44
     ·rw [cond_false] at H
      obtain ⟨c61, H⟩ := guard_pos H
      obtain ⟨c62, H⟩ := guard_pos H
      refine st 7 [false] (k_val (elemPtr a29 ((w64 (x33 - 15)).toNat * 1)) (pI (e := 3) (ik := .i64) (hs.sO d1) c61 c62) ?_)
      refine k_op (lC ((hs.sO d1).cell1 c61 c62) ?_)
      obtain ⟨c63, H⟩ := guard_pos H
      obtain ⟨c64, H⟩ := guard_pos H
      refine st 7 [] (k_val (elemPtr a29 ((w64 (x33 - 2)).toNat * 1)) (pI (e := 3) (ik := .i64) (hs.sO d1) c63 c64) ?_)
      refine k_op (lC ((hs.sO d1).cell1 c63 c64) ?_)
      refine st 5 [] (k_call H (fun _ m => shutterref01_turn.calls m) ?_)
      rintro t65 _ _ H ⟨rfl, rfl⟩
      refine st 1 [] (k_call H (fun _ m => shutterref01_turn.calls m) ?_)
      rintro t66 _ _ H ⟨rfl, rfl⟩
      refine st 9 [] (k_call H (fun _ m => shutterref01_turn.calls m) ?_)
      rintro t67 _ _ H ⟨rfl, rfl⟩
      refine st 1 [] (k_call H (fun _ m => shutterref01_turn.calls m) ?_)
      rintro t68 _ _ H ⟨rfl, rfl⟩
      refine st 6 [] ?_
      obtain ⟨hs0, bk0⟩ := hs.call tk0 (.c (qO d1) .n)
      have hs := hs0
      refine k_regD hs0 18 ?_
      obtain ⟨c69, H⟩ := guard_pos H
      obtain ⟨c70, H⟩ := guard_pos H
      refine aRun [0, 1, 2, 3, 4] 15 hs.keep ?_
      refine aP 5 (elemPtr a29 ((w64 (x33 - 7)).toNat * 1)) rfl (pI (e := 3) (ik := .i64) (hs.sR d0) c69 c70) hs.keep ?_
      refine aL 6 rfl hs.keep ((hs0.sR d0).cell1 c69 c70) (nmR hs0 d0 c69 c70) ?_
      obtain ⟨c71, H⟩ := guard_pos H
      obtain ⟨c72, H⟩ := guard_pos H
      refine aRun [7, 8, 9, 10, 11, 12] 7 hs.keep ?_
      refine aP 13 (elemPtr a29 ((w64 (x33 - 16)).toNat * 1)) rfl (pI (e := 3) (ik := .i64) (hs.sR d0) c71 c72) hs.keep ?_
      refine aL 14 rfl hs.keep ((hs0.sR d0).cell1 c71 c72) (nmR hs0 d0 c71 c72) ?_
      refine aRun [15, 16] 3 hs.keep ?_
      refine aO1 17 rfl (nS (e := 3) hs .i (tInt .i64) ([(Int.tmod (w64 ((w64 ((w64 ((bXor .i64 (bXor .i64 t67 t68) (shr .i64 (at_ x28 (w64 (x33 - 2))) 10)) + (at_ x28 (w64 (x33 - 7))))) + (bXor .i64 (bXor .i64 t65 t66) (shr .i64 (at_ x28 (w64 (x33 - 15))) 3)))) + (at_ x28 (w64 (x33 - 16))))) 4294967296)] : List Int) [.int .i64 (Int.tmod (w64 ((w64 ((w64 ((bXor .i64 (bXor .i64 t67 t68) (shr .i64 (at_ x28 (w64 (x33 - 2))) 10)) + (at_ x28 (w64 (x33 - 7))))) + (bXor .i64 (bXor .i64 t65 t66) (shr .i64 (at_ x28 (w64 (x33 - 15))) 3)))) + (at_ x28 (w64 (x33 - 16))))) 4294967296)] 1 (.int .i64 0) (Reps.int (I := (Cl.G .i E.B I)) (k := .i64) (l := [(Int.tmod (w64 ((w64 ((w64 ((bXor .i64 (bXor .i64 t67 t68) (shr .i64 (at_ x28 (w64 (x33 - 2))) 10)) + (at_ x28 (w64 (x33 - 7))))) + (bXor .i64 (bXor .i64 t65 t66) (shr .i64 (at_ x28 (w64 (x33 - 15))) 3)))) + (at_ x28 (w64 (x33 - 16))))) 4294967296)])) ?_)
      intro b73 h hs
      refine ⟨hs.keep, ?_⟩
      replace hs := hs.pk (.c d0 .n)
      replace hs := bk0 hs ct1 rfl
      replace hs := (hs.f d2)
      obtain ⟨l75, m76, H⟩ := bind_some H
      refine aOL 18 rfl (aO (e := 3) (bytes := 8) hs (hs.sO d1) m76 ?_)
      intro a77 p78 h hs
      refine aOL 19 rfl (owp_pure (.slice a77 l75.length p78) (by kernel_rfl) ?_)
      refine aEnd ?_
      refine st 6 [] ?_
      exact k_endL ⟨k, Nat.lt_succ_self _, l75, (w64 (x33 + 1)), a77, p78, l75.length, I, H, ⟨by kernel_rfl, by kernel_rfl, by kernel_rfl, by kernel_rfl, by kernel_rfl, trivial⟩, hs.pk (.c d2 (.c d0 (.c d1 (.c d1 .n))))⟩
     ·rw [cond_true] at H
      refine st 2 [true] ?_
      obtain ⟨hs0, bk0⟩ := hs.call tk0 (.c (qB d0) .n)
      have hs := hs0
      refine k_regD hs0 35 ?_
      obtain ⟨c46, H⟩ := guard_pos H
      obtain ⟨c47, H⟩ := guard_pos H
      refine aRun [0, 1, 2, 3] 33 hs.keep ?_
      refine aP 4 (elemPtr a22 ((w64 (4 * x33)).toNat * 1)) rfl (pI (e := 5) (ik := .i64) (hs.sR d0) c46 c47) hs.keep ?_
      refine aL 5 rfl hs.keep ((hs0.sR d0).cell1 c46 c47) (nmR hs0 d0 c46 c47) ?_
      obtain ⟨c48, H⟩ := guard_pos H
      obtain ⟨c49, H⟩ := guard_pos H
      refine aRun [6, 7, 8, 9, 10, 11] 25 hs.keep ?_
      refine aP 12 (elemPtr a22 ((w64 ((w64 (4 * x33)) + 1)).toNat * 1)) rfl (pI (e := 5) (ik := .i64) (hs.sR d0) c48 c49) hs.keep ?_
      refine aL 13 rfl hs.keep ((hs0.sR d0).cell1 c48 c49) (nmR hs0 d0 c48 c49) ?_
      obtain ⟨c50, H⟩ := guard_pos H
      obtain ⟨c51, H⟩ := guard_pos H
      refine aRun [14, 15, 16, 17, 18, 19, 20] 16 hs.keep ?_
      refine aP 21 (elemPtr a22 ((w64 ((w64 (4 * x33)) + 2)).toNat * 1)) rfl (pI (e := 5) (ik := .i64) (hs.sR d0) c50 c51) hs.keep ?_
      refine aL 22 rfl hs.keep ((hs0.sR d0).cell1 c50 c51) (nmR hs0 d0 c50 c51) ?_
      obtain ⟨c52, H⟩ := guard_pos H
      obtain ⟨c53, H⟩ := guard_pos H
      refine aRun [23, 24, 25, 26, 27, 28, 29] 7 hs.keep ?_
      refine aP 30 (elemPtr a22 ((w64 ((w64 (4 * x33)) + 3)).toNat * 1)) rfl (pI (e := 5) (ik := .i64) (hs.sR d0) c52 c53) hs.keep ?_
      refine aL 31 rfl hs.keep ((hs0.sR d0).cell1 c52 c53) (nmR hs0 d0 c52 c53) ?_
      refine aRun [32, 33] 3 hs.keep ?_
      refine aO1 34 rfl (nS (e := 3) hs .i (tInt .i64) ([(w64 ((w64 ((w64 ((w64 (16777216 * (w64 ((at_ x1 (w64 (4 * x33))))))) + (w64 (65536 * (w64 ((at_ x1 (w64 ((w64 (4 * x33)) + 1))))))))) + (w64 (256 * (w64 ((at_ x1 (w64 ((w64 (4 * x33)) + 2))))))))) + (w64 ((at_ x1 (w64 ((w64 (4 * x33)) + 3)))))))] : List Int) [.int .i64 (w64 ((w64 ((w64 ((w64 (16777216 * (w64 ((at_ x1 (w64 (4 * x33))))))) + (w64 (65536 * (w64 ((at_ x1 (w64 ((w64 (4 * x33)) + 1))))))))) + (w64 (256 * (w64 ((at_ x1 (w64 ((w64 (4 * x33)) + 2))))))))) + (w64 ((at_ x1 (w64 ((w64 (4 * x33)) + 3)))))))] 1 (.int .i64 0) (Reps.int (I := (Cl.G .i E.B I)) (k := .i64) (l := [(w64 ((w64 ((w64 ((w64 (16777216 * (w64 ((at_ x1 (w64 (4 * x33))))))) + (w64 (65536 * (w64 ((at_ x1 (w64 ((w64 (4 * x33)) + 1))))))))) + (w64 (256 * (w64 ((at_ x1 (w64 ((w64 (4 * x33)) + 2))))))))) + (w64 ((at_ x1 (w64 ((w64 (4 * x33)) + 3)))))))])) ?_)
      intro b54 h hs
      refine ⟨hs.keep, ?_⟩
      replace hs := hs.pk (.c d0 .n)
      replace hs := bk0 hs ct1 rfl
      replace hs := (hs.f d2)
      obtain ⟨l56, m57, H⟩ := bind_some H
      refine aOL 35 rfl (aO (e := 3) (bytes := 8) hs (hs.sO d1) m57 ?_)
      intro a58 p59 h hs
      refine aOL 36 rfl (owp_pure (.slice a58 l56.length p59) (by kernel_rfl) ?_)
      refine aEnd ?_
      refine st 6 [] ?_
      exact k_endL ⟨k, Nat.lt_succ_self _, l56, (w64 (x33 + 1)), a58, p59, l56.length, I, H, ⟨by kernel_rfl, by kernel_rfl, by kernel_rfl, by kernel_rfl, by kernel_rfl, trivial⟩, hs.pk (.c d2 (.c d0 (.c d1 (.c d1 .n))))⟩
   ·refine st 2 [false] ?_
    refine k_out rfl ?_
    obtain rfl := Option.some.inj H
    exact xE ⟨x28, a29, p30, x28.length, I, rfl, ⟨by kernel_rfl, by kernel_rfl, by kernel_rfl, trivial⟩, hs.pk (.c d1 (.c d1 (.c d1 .n)))⟩
 ·rintro ρ h ⟨x35, a36, p37, n38, I, rfl, hf, hs⟩
  have H := HR40
  try dsimp only at H
  refine k_fits _ hf ?_ rfl
  obtain rfl := hs.nO d0
  refine st 2 [] (k_op (lG ((hs.bl d1).arrSeg hl21) ?_))
  refine k_op (nA hs (List.map (Value.int .i64) (List.replicate 8 (0 : Int))) (.agg (List.map (Value.int .i64) (List.replicate 8 (0 : Int))).toArray) ?_)
  intro b81 h hs
  refine k_op (sAN (l2 := x0) hs (List.length_replicate (n := 8) (a := (0 : Int))) hl21 ?_)
  intro h hs
  refine st 7 [] ?_
  obtain ⟨s85, m89, HR88⟩ := bind_some H
  refine k_loop 2 (fun k' ρ h => ∃ (x82 : Int) (x84 : List Int) (I : Gh), shutterref01_Block.l2.m K x35 k' x82 x84 = some s85 ∧ Fits [(2, .pointer (some ⟨b26, 0, none⟩)), (4, .pointer (some ⟨b27, 0, none⟩)), (5, .slice a36 x35.length p37), (11, .pointer (some ⟨b81, 0, none⟩)), (12, .int .i64 x82)] ρ ∧ List.length x84 = 8 ∧ St E [rO (tInt .i64) .i a36 p37 x35.length x35, rB b26 (List.map (Value.int .i64) x0) 159, rB b27 (List.map (Value.int .i64) (List.replicate 8 (0 : Int))) 159, rB b81 (List.map (Value.int .i64) x84) 159] I h) (fun ρ h => ∃ (x87 : List Int) (I : Gh), x87 = s85 ∧ Fits [(2, .pointer (some ⟨b26, 0, none⟩)), (4, .pointer (some ⟨b27, 0, none⟩)), (11, .pointer (some ⟨b81, 0, none⟩))] ρ ∧ List.length x87 = 8 ∧ St E [rB b26 (List.map (Value.int .i64) x0) 159, rB b27 (List.map (Value.int .i64) (List.replicate 8 (0 : Int))) 159, rB b81 (List.map (Value.int .i64) x87) 159] I h) K ⟨0, x0, I, m89, ⟨by kernel_rfl, by kernel_rfl, by kernel_rfl, by kernel_rfl, by kernel_rfl, trivial⟩, hl21, hs.pk (.c d1 (.c d1 (.c d1 (.c d0 .n))))⟩ ?_ rfl ?_
  ·clear HR88 m89 H
   rintro k' ρ h ⟨x82, x84, I, H, hf, hl83, hs⟩
   cases k' with
   | zero => cases H
   | succ k =>
    rw [shutterref01_Block.l2.m] at H
    refine k_fits _ hf ?_ rfl
    refine st 4 [] (k_ite H (fun c90 H => ?_) (fun c90 H => ?_))
    ·refine st 7 [true] (k_val (elemPtr (some ⟨b81, 0, none⟩) ((4 : Int).toNat * 1)) (pr_indexArr (e := 3) (kk := .i64) (n := 8) (by kernel_rfl) (by kernel_rfl) (by kernel_rfl) (by kernel_rfl) (by decide) (by decide)) ?_)
     refine k_op (lC (((hs.bl d3)).arrCell (i := 4) hl83 (by decide) (by decide)) ?_)
     refine st 4 [] (k_val (elemPtr (some ⟨b81, 0, none⟩) ((0 : Int).toNat * 1)) (pr_indexArr (e := 3) (kk := .i64) (n := 8) (by kernel_rfl) (by kernel_rfl) (by kernel_rfl) (by kernel_rfl) (by decide) (by decide)) ?_)
     refine k_op (lC (((hs.bl d3)).arrCell (i := 0) hl83 (by decide) (by decide)) ?_)
     refine st 5 [] (k_call H (fun _ m => shutterref01_turn.calls m) ?_)
     rintro t91 _ _ H ⟨rfl, rfl⟩
     refine st 1 [] (k_call H (fun _ m => shutterref01_turn.calls m) ?_)
     rintro t92 _ _ H ⟨rfl, rfl⟩
     refine st 2 [] (k_call H (fun _ m => shutterref01_turn.calls m) ?_)
     rintro t93 _ _ H ⟨rfl, rfl⟩
     refine st 4 [] ?_
     obtain ⟨hs0, bk0⟩ := hs.call tk0 (.c (qL d3) .n)
     have hs := hs0
     refine k_regD hs0 11 ?_
     refine aRun [0] 10 hs.keep ?_
     refine aP 1 (elemPtr (some ⟨b81, 0, none⟩) ((5 : Int).toNat * 1)) rfl (pr_indexArr (e := 3) (kk := .i64) (n := 8) (by kernel_rfl) (by kernel_rfl) (by kernel_rfl) (by kernel_rfl) (by decide) (by decide)) hs.keep ?_
     refine aL 2 rfl hs.keep ((OwnB.mk (I := No) (hs0.g d0).1 (fun x => x)).arrCell (i := 5) hl83 (by decide) (by decide)) (nmL hs0 d0) ?_
     refine aRun [4, 5] 6 hs.keep ?_
     refine aP 6 (elemPtr (some ⟨b81, 0, none⟩) ((6 : Int).toNat * 1)) rfl (pr_indexArr (e := 3) (kk := .i64) (n := 8) (by kernel_rfl) (by kernel_rfl) (by kernel_rfl) (by kernel_rfl) (by decide) (by decide)) hs.keep ?_
     refine aL 7 rfl hs.keep ((OwnB.mk (I := No) (hs0.g d0).1 (fun x => x)).arrCell (i := 6) hl83 (by decide) (by decide)) (nmL hs0 d0) ?_
     refine aO1 3 rfl (o_call H (fun _ m => shutterref01_both.calls m) ?_)
     rintro t94 _ _ H ⟨rfl, rfl⟩
     refine ⟨hs.keep, ?_⟩
     refine aO1 8 rfl (o_call H (fun _ m => shutterref01_both.calls m) ?_)
     rintro t95 _ _ H ⟨rfl, rfl⟩
     refine ⟨hs.keep, ?_⟩
     refine aRun [9, 10] 0 hs.keep ?_
     replace hs := hs.pk .n
     replace hs := bk0 hs ct0 rfl
     refine aEnd ?_
     refine st 1 [] ?_
     obtain ⟨hs0, bk0⟩ := hs.call tk0 (.c (qL d3) (.c (qO d0) .n))
     have hs := hs0
     refine k_regD hs0 16 ?_
     refine aP 0 (elemPtr (some ⟨b81, 0, none⟩) ((7 : Int).toNat * 1)) rfl (pr_indexArr (e := 3) (kk := .i64) (n := 8) (by kernel_rfl) (by kernel_rfl) (by kernel_rfl) (by kernel_rfl) (by decide) (by decide)) hs.keep ?_
     refine aL 1 rfl hs.keep ((OwnB.mk (I := No) (hs0.g d0).1 (fun x => x)).arrCell (i := 7) hl83 (by decide) (by decide)) (nmL hs0 d0) ?_
     obtain ⟨c96, H⟩ := guard_pos H
     obtain ⟨c97, H⟩ := guard_pos H
     refine aRun [2, 3, 4, 5, 6, 9, 10] 7 hs.keep ?_
     refine aP 11 (elemPtr a36 (x82.toNat * 1)) rfl (pI (e := 3) (ik := .i64) (hs.sR d1) c96 c97) hs.keep ?_
     refine aL 12 rfl hs.keep ((hs0.sR d1).cell1 c96 c97) (nmR hs0 d1 c96 c97) ?_
     refine aO1 7 rfl (o_call H (fun _ m => shutterref01_Word.calls m) ?_)
     rintro t98 _ _ H ⟨rfl, rfl⟩
     refine ⟨hs.keep, ?_⟩
     refine aRun [8, 13, 14, 15] 0 hs.keep ?_
     replace hs := hs.pk .n
     replace hs := bk0 hs ct0 rfl
     refine aEnd ?_
     refine st 3 [] (k_call H (fun _ m => shutterref01_turn.calls m) ?_)
     rintro t99 _ _ H ⟨rfl, rfl⟩
     refine st 1 [] (k_call H (fun _ m => shutterref01_turn.calls m) ?_)
     rintro t100 _ _ H ⟨rfl, rfl⟩
     refine st 2 [] (k_call H (fun _ m => shutterref01_turn.calls m) ?_)
     rintro t101 _ _ H ⟨rfl, rfl⟩
     refine st 4 [] ?_
     obtain ⟨hs0, bk0⟩ := hs.call tk0 (.c (qL d3) .n)
     have hs := hs0
     refine k_regD hs0 16 ?_
     refine aRun [0] 15 hs.keep ?_
     refine aP 1 (elemPtr (some ⟨b81, 0, none⟩) ((1 : Int).toNat * 1)) rfl (pr_indexArr (e := 3) (kk := .i64) (n := 8) (by kernel_rfl) (by kernel_rfl) (by kernel_rfl) (by kernel_rfl) (by decide) (by decide)) hs.keep ?_
     refine aL 2 rfl hs.keep ((OwnB.mk (I := No) (hs0.g d0).1 (fun x => x)).arrCell (i := 1) hl83 (by decide) (by decide)) (nmL hs0 d0) ?_
     refine aRun [4] 12 hs.keep ?_
     refine aP 5 (elemPtr (some ⟨b81, 0, none⟩) ((2 : Int).toNat * 1)) rfl (pr_indexArr (e := 3) (kk := .i64) (n := 8) (by kernel_rfl) (by kernel_rfl) (by kernel_rfl) (by kernel_rfl) (by decide) (by decide)) hs.keep ?_
     refine aL 6 rfl hs.keep ((OwnB.mk (I := No) (hs0.g d0).1 (fun x => x)).arrCell (i := 2) hl83 (by decide) (by decide)) (nmL hs0 d0) ?_
     refine aP 9 (elemPtr (some ⟨b81, 0, none⟩) ((1 : Int).toNat * 1)) rfl (pr_indexArr (e := 3) (kk := .i64) (n := 8) (by kernel_rfl) (by kernel_rfl) (by kernel_rfl) (by kernel_rfl) (by decide) (by decide)) hs.keep ?_
     refine aL 10 rfl hs.keep ((OwnB.mk (I := No) (hs0.g d0).1 (fun x => x)).arrCell (i := 1) hl83 (by decide) (by decide)) (nmL hs0 d0) ?_
     refine aP 11 (elemPtr (some ⟨b81, 0, none⟩) ((2 : Int).toNat * 1)) rfl (pr_indexArr (e := 3) (kk := .i64) (n := 8) (by kernel_rfl) (by kernel_rfl) (by kernel_rfl) (by kernel_rfl) (by decide) (by decide)) hs.keep ?_
     refine aL 12 rfl hs.keep ((OwnB.mk (I := No) (hs0.g d0).1 (fun x => x)).arrCell (i := 2) hl83 (by decide) (by decide)) (nmL hs0 d0) ?_
     refine aO1 3 rfl (o_call H (fun _ m => shutterref01_both.calls m) ?_)
     rintro t102 _ _ H ⟨rfl, rfl⟩
     refine ⟨hs.keep, ?_⟩
     refine aO1 7 rfl (o_call H (fun _ m => shutterref01_both.calls m) ?_)
     rintro t103 _ _ H ⟨rfl, rfl⟩
     refine ⟨hs.keep, ?_⟩
     refine aRun [8] 3 hs.keep ?_
     refine aO1 13 rfl (o_call H (fun _ m => shutterref01_both.calls m) ?_)
     rintro t104 _ _ H ⟨rfl, rfl⟩
     refine ⟨hs.keep, ?_⟩
     refine aRun [14, 15] 0 hs.keep ?_
     replace hs := hs.pk .n
     replace hs := bk0 hs ct0 rfl
     refine aEnd ?_
     refine st 13 [] (k_val (elemPtr (some ⟨b81, 0, none⟩) ((0 : Int).toNat * 1)) (pr_indexArr (e := 3) (kk := .i64) (n := 8) (by kernel_rfl) (by kernel_rfl) (by kernel_rfl) (by kernel_rfl) (by decide) (by decide)) ?_)
     refine k_op (lC (((hs.bl d3)).arrCell (i := 0) hl83 (by decide) (by decide)) ?_)
     refine k_val (elemPtr (some ⟨b81, 0, none⟩) ((1 : Int).toNat * 1)) (pr_indexArr (e := 3) (kk := .i64) (n := 8) (by kernel_rfl) (by kernel_rfl) (by kernel_rfl) (by kernel_rfl) (by decide) (by decide)) ?_
     refine k_op (lC (((hs.bl d3)).arrCell (i := 1) hl83 (by decide) (by decide)) ?_)
     refine k_val (elemPtr (some ⟨b81, 0, none⟩) ((2 : Int).toNat * 1)) (pr_indexArr (e := 3) (kk := .i64) (n := 8) (by kernel_rfl) (by kernel_rfl) (by kernel_rfl) (by kernel_rfl) (by decide) (by decide)) ?_
     refine k_op (lC (((hs.bl d3)).arrCell (i := 2) hl83 (by decide) (by decide)) ?_)
     refine k_val (elemPtr (some ⟨b81, 0, none⟩) ((3 : Int).toNat * 1)) (pr_indexArr (e := 3) (kk := .i64) (n := 8) (by kernel_rfl) (by kernel_rfl) (by kernel_rfl) (by kernel_rfl) (by decide) (by decide)) ?_
     refine k_op (lC (((hs.bl d3)).arrCell (i := 3) hl83 (by decide) (by decide)) ?_)
     refine st 3 [] (k_val (elemPtr (some ⟨b81, 0, none⟩) ((4 : Int).toNat * 1)) (pr_indexArr (e := 3) (kk := .i64) (n := 8) (by kernel_rfl) (by kernel_rfl) (by kernel_rfl) (by kernel_rfl) (by decide) (by decide)) ?_)
     refine k_op (lC (((hs.bl d3)).arrCell (i := 4) hl83 (by decide) (by decide)) ?_)
     refine k_val (elemPtr (some ⟨b81, 0, none⟩) ((5 : Int).toNat * 1)) (pr_indexArr (e := 3) (kk := .i64) (n := 8) (by kernel_rfl) (by kernel_rfl) (by kernel_rfl) (by kernel_rfl) (by decide) (by decide)) ?_
     refine k_op (lC (((hs.bl d3)).arrCell (i := 5) hl83 (by decide) (by decide)) ?_)
     refine k_val (elemPtr (some ⟨b81, 0, none⟩) ((6 : Int).toNat * 1)) (pr_indexArr (e := 3) (kk := .i64) (n := 8) (by kernel_rfl) (by kernel_rfl) (by kernel_rfl) (by kernel_rfl) (by decide) (by decide)) ?_
     refine k_op (lC (((hs.bl d3)).arrCell (i := 6) hl83 (by decide) (by decide)) ?_)
     refine st 1 [] (k_op (sAN (l2 := [(Int.tmod (w64 ((Int.tmod (w64 ((w64 ((w64 ((w64 ((at_ x84 7) + (bXor .i64 (bXor .i64 t91 t92) t93))) + (bXor .i64 t94 t95))) + t98)) + (at_ x35 x82))) 4294967296) + (Int.tmod (w64 ((bXor .i64 (bXor .i64 t99 t100) t101) + (bXor .i64 (bXor .i64 t102 t103) t104))) 4294967296))) 4294967296), (at_ x84 0), (at_ x84 1), (at_ x84 2), (Int.tmod (w64 ((at_ x84 3) + (Int.tmod (w64 ((w64 ((w64 ((w64 ((at_ x84 7) + (bXor .i64 (bXor .i64 t91 t92) t93))) + (bXor .i64 t94 t95))) + t98)) + (at_ x35 x82))) 4294967296))) 4294967296), (at_ x84 4), (at_ x84 5), (at_ x84 6)]) (hs.f d3) hl83 rfl ?_))
     intro h hs
     refine st 7 [] ?_
     exact k_endL ⟨k, Nat.lt_succ_self _, (w64 (x82 + 1)), [(Int.tmod (w64 ((Int.tmod (w64 ((w64 ((w64 ((w64 ((at_ x84 7) + (bXor .i64 (bXor .i64 t91 t92) t93))) + (bXor .i64 t94 t95))) + t98)) + (at_ x35 x82))) 4294967296) + (Int.tmod (w64 ((bXor .i64 (bXor .i64 t99 t100) t101) + (bXor .i64 (bXor .i64 t102 t103) t104))) 4294967296))) 4294967296), (at_ x84 0), (at_ x84 1), (at_ x84 2), (Int.tmod (w64 ((at_ x84 3) + (Int.tmod (w64 ((w64 ((w64 ((w64 ((at_ x84 7) + (bXor .i64 (bXor .i64 t91 t92) t93))) + (bXor .i64 t94 t95))) + t98)) + (at_ x35 x82))) 4294967296))) 4294967296), (at_ x84 4), (at_ x84 5), (at_ x84 6)], I, H, ⟨by kernel_rfl, by kernel_rfl, by kernel_rfl, by kernel_rfl, by kernel_rfl, trivial⟩, rfl, hs.pk (.c d1 (.c d1 (.c d1 (.c d0 .n))))⟩
    ·refine st 2 [false] ?_
     refine k_out rfl ?_
     obtain rfl := Option.some.inj H
     exact xE ⟨x84, I, rfl, ⟨by kernel_rfl, by kernel_rfl, by kernel_rfl, trivial⟩, hl83, hs.pk (.c d1 (.c d1 (.c d1 .n)))⟩
  ·rintro ρ h ⟨x87, I, rfl, hf, hl86, hs⟩
   have H := HR88
   try dsimp only at H
   refine k_fits _ hf ?_ rfl
   refine st 6 [] ?_
   obtain ⟨s108, m112, HR111⟩ := bind_some H
   refine k_loop 4 (fun k' ρ h => ∃ (x105 : Int) (x107 : List Int) (I : Gh), shutterref01_Block.l3.m K x0 k' x105 x107 = some s108 ∧ Fits [(2, .pointer (some ⟨b26, 0, none⟩)), (4, .pointer (some ⟨b27, 0, none⟩)), (11, .pointer (some ⟨b81, 0, none⟩)), (21, .int .i64 x105)] ρ ∧ List.length x107 = 8 ∧ St E [rB b26 (List.map (Value.int .i64) x0) 159, rB b27 (List.map (Value.int .i64) (List.replicate 8 (0 : Int))) 159, rB b81 (List.map (Value.int .i64) x107) 159] I h) (fun ρ h => ∃ (x110 : List Int) (I : Gh), x110 = s108 ∧ Fits [(4, .pointer (some ⟨b27, 0, none⟩)), (11, .pointer (some ⟨b81, 0, none⟩))] ρ ∧ List.length x110 = 8 ∧ St E [rB b27 (List.map (Value.int .i64) (List.replicate 8 (0 : Int))) 159, rB b81 (List.map (Value.int .i64) x110) 159] I h) K ⟨0, x87, I, m112, ⟨by kernel_rfl, by kernel_rfl, by kernel_rfl, by kernel_rfl, trivial⟩, hl86, hs.pk (.c d0 (.c d0 (.c d0 .n)))⟩ ?_ rfl ?_
   ·clear HR111 m112 H
    rintro k' ρ h ⟨x105, x107, I, H, hf, hl106, hs⟩
    cases k' with
    | zero => cases H
    | succ k =>
     rw [shutterref01_Block.l3.m] at H
     refine k_fits _ hf ?_ rfl
     refine st 4 [] (k_ite H (fun c113 H => ?_) (fun c113 H => ?_))
     ·refine st 5 [true] ?_
      obtain ⟨hs0, bk0⟩ := hs.call tk0 (.c (qL d2) (.c (qL d0) .n))
      have hs := hs0
      refine k_regD hs0 10 ?_
      obtain ⟨c114, H⟩ := guard_pos H
      refine aRun [0, 1] 9 hs.keep ?_
      refine aP 2 (elemPtr (some ⟨b81, 0, none⟩) (x105.toNat * 1)) rfl (pr_indexArr (e := 3) (kk := .i64) (n := 8) (by kernel_rfl) (by kernel_rfl) (by kernel_rfl) (by kernel_rfl) c114 c113) hs.keep ?_
      refine aL 3 rfl hs.keep ((OwnB.mk (I := No) (hs0.g d0).1 (fun x => x)).arrCell (i := x105) hl106 c114 c113) (nmL hs0 d0) ?_
      refine aRun [4] 6 hs.keep ?_
      refine aP 5 (elemPtr (some ⟨b26, 0, none⟩) (x105.toNat * 1)) rfl (pr_indexArr (e := 3) (kk := .i64) (n := 8) (by kernel_rfl) (by kernel_rfl) (by kernel_rfl) (by kernel_rfl) c114 c113) hs.keep ?_
      refine aL 6 rfl hs.keep ((OwnB.mk (I := No) (hs0.g d1).1 (fun x => x)).arrCell (i := x105) hl21 c114 c113) (nmL hs0 d1) ?_
      refine aRun [7, 8] 2 hs.keep ?_
      refine aP 9 (elemPtr (some ⟨b81, 0, none⟩) (x105.toNat * 1)) rfl (pr_indexArr (e := 3) (kk := .i64) (n := 8) (by kernel_rfl) (by kernel_rfl) (by kernel_rfl) (by kernel_rfl) c114 c113) hs.keep ?_
      replace hs := hs.pk .n
      replace hs := bk0 hs ct0 rfl
      refine aOL 10 rfl (sA (hs.f d2) (Int.tmod (w64 ((at_ x107 x105) + (at_ x0 x105))) 4294967296) hl106 c114 c113 ?_)
      intro h hs
      refine aEnd ?_
      refine st 6 [] ?_
      exact k_endL ⟨k, Nat.lt_succ_self _, (w64 (x105 + 1)), (x107.set x105.toNat (Int.tmod (w64 ((at_ x107 x105) + (at_ x0 x105))) 4294967296)), I, H, ⟨by kernel_rfl, by kernel_rfl, by kernel_rfl, by kernel_rfl, trivial⟩, (len_set hl106), hs.pk (.c d1 (.c d1 (.c d0 .n)))⟩
     ·refine st 2 [false] ?_
      refine k_out rfl ?_
      obtain rfl := Option.some.inj H
      exact xE ⟨x107, I, rfl, ⟨by kernel_rfl, by kernel_rfl, trivial⟩, hl106, hs.pk (.c d1 (.c d1 .n))⟩
   ·rintro ρ h ⟨x110, I, rfl, hf, hl109, hs⟩
    have H := HR111
    try dsimp only at H
    refine k_fits _ hf ?_ rfl
    refine st 2 [] (k_op (lG ((hs.bl d1).arrSeg hl109) ?_))
    refine k_op (sAN (l2 := x110) hs (List.length_replicate (n := 8) (a := (0 : Int))) hl109 ?_)
    intro h hs
    refine st 1 [] ?_
    refine k_retQ ?_
    obtain rfl := Option.some.inj H
    exact ⟨[.agg (List.map (Value.int .i64) x110).toArray], (.cons (.agg (by kernel_rfl) (by kernel_rfl) (by kernel_rfl) ((hs.bl d0).arrSeg hl109)) .nil), I, _, ⟨rfl, rfl, hl109⟩, hs.pk .n⟩

/-! shutter/shutterref01.Of -/
def shutterref01_Of.l1.m (K : Nat) : Nat → Int → (List Int) → Option ((List Int))
  | 0, _, _ => none
  | k + 1, x27, x29 => (if x27 < 8 then ((shutterref01_Word.m K (⟨#[54, 97, 48, 57, 101, 54, 54, 55, 98, 98, 54, 55, 97, 101, 56, 53, 51, 99, 54, 101, 102, 51, 55, 50, 97, 53, 52, 102, 102, 53, 51, 97, 53, 49, 48, 101, 53, 50, 55, 102, 57, 98, 48, 53, 54, 56, 56, 99, 49, 102, 56, 51, 100, 57, 97, 98, 53, 98, 101, 48, 99, 100, 49, 57]⟩ : ByteArray) x27).bind fun t36 => (if 0 ≤ x27 then (shutterref01_Of.l1.m K k (w64 (x27 + 1)) (x29.set x27.toNat t36)) else none)) else (some (x29)))
def shutterref01_Of.l2.m (K : Nat) (t38 : (List Int)) : Nat → Int → (List Int) → Option ((List Int))
  | 0, _, _ => none
  | k + 1, x43, x45 => (if x43 < (t38.length : Int) then (if 0 ≤ x43 then (if x43 ≤ (w64 (x43 + 64)) then (if (w64 (x43 + 64)) ≤ (t38.length : Int) then ((shutterref01_Block.m K x45 (sub t38 x43 (w64 (x43 + 64)))).bind fun t55 => (shutterref01_Of.l2.m K t38 k (w64 (x43 + 64)) t55)) else none) else none) else none) else (some (x45)))
def shutterref01_Of.l3.m (K : Nat) (x48 : List Int) : Nat → Int → (List Int) → Option ((List Int))
  | 0, _, _ => none
  | k + 1, x58, x60 => (if x58 < 32 then (if 0 ≤ (w64 (Int.tdiv x58 4)) then (if (w64 (Int.tdiv x58 4)) < 8 then (if 0 ≤ (IntKind.u64.wrap ((w64 (24 - (w64 (8 * (Int.tmod x58 4))))))) then (if 0 ≤ x58 then (shutterref01_Of.l3.m K x48 k (w64 (x58 + 1)) (x60.set x58.toNat (IntKind.u8.wrap ((bAnd .i64 (shr .i64 (at_ x48 (w64 (Int.tdiv x58 4))) (IntKind.u64.wrap ((w64 (24 - (w64 (8 * (Int.tmod x58 4)))))))) 255))))) else none) else none) else none) else none) else (some (x60)))
def shutterref01_Of.m (K : Nat) (x0 : (List Int)) : Option (List Int) :=
  ((shutterref01_Of.l1.m K K 0 (List.replicate 8 (0 : Int))).bind fun x32 => ((shutterref01_Fill.m K x0).bind fun t38 => ((shutterref01_Of.l2.m K t38 K 0 x32).bind fun x48 => ((shutterref01_Of.l3.m K x48 K 0 (List.replicate 32 (0 : Int))).bind fun x63 => (some x63)))))

theorem shutterref01_Of.calls {B I : Gh} {h : Heap} {K : Nat} {x0 : (List Int)} {a21 : Option Addr} {p22 : Nat} {n23 : Nat} {r : (List Int)} (H : shutterref01_Of.m K x0 = some r)  :
    Fc Tryd.prog 89 #[.slice a21 n23 p22] [rR (tInt .u8) .b a21 p22 n23 x0] B I h (fun v L => v = .agg (List.map (Value.int .u8) r).toArray ∧ L = [] ∧ List.length r = 32) := by
 refine fc_of fun E hs => ?_
 unfold shutterref01_Of.m at H
 obtain rfl := hs.nR d0
 refine fn_of2 (args := [.slice a21 x0.length p22]) (rs := [.cell 2 130]) (N := 51) Tryd.func89 rfl rfl rfl rfl ?_
 refine st 2 [] (k_op (nA hs (List.map (Value.int .u8) (List.replicate 32 (0 : Int))) (.agg (List.map (Value.int .u8) (List.replicate 32 (0 : Int))).toArray) ?_))
 intro b25 h hs
 refine st 3 [] (k_op (nA hs (List.map (Value.int .i64) (List.replicate 8 (0 : Int))) (.agg (List.map (Value.int .i64) (List.replicate 8 (0 : Int))).toArray) ?_))
 intro b26 h hs
 refine st 7 [] ?_
 obtain ⟨s30, m34, HR33⟩ := bind_some H
 refine k_loop 0 (fun k' ρ h => ∃ (x27 : Int) (x29 : List Int) (I : Gh), shutterref01_Of.l1.m K k' x27 x29 = some s30 ∧ Fits [(0, .slice a21 x0.length p22), (2, .pointer (some ⟨b25, 0, none⟩)), (3, .pointer (some ⟨b26, 0, none⟩)), (4, .int .i64 x27)] ρ ∧ List.length x29 = 8 ∧ St E [rR (tInt .u8) .b a21 p22 x0.length x0, rB b25 (List.map (Value.int .u8) (List.replicate 32 (0 : Int))) 130, rB b26 (List.map (Value.int .i64) x29) 159] I h) (fun ρ h => ∃ (x32 : List Int) (I : Gh), x32 = s30 ∧ Fits [(0, .slice a21 x0.length p22), (2, .pointer (some ⟨b25, 0, none⟩)), (3, .pointer (some ⟨b26, 0, none⟩))] ρ ∧ List.length x32 = 8 ∧ St E [rR (tInt .u8) .b a21 p22 x0.length x0, rB b25 (List.map (Value.int .u8) (List.replicate 32 (0 : Int))) 130, rB b26 (List.map (Value.int .i64) x32) 159] I h) K ⟨0, (List.replicate 8 (0 : Int)), I, m34, ⟨by kernel_rfl, by kernel_rfl, by kernel_rfl, by kernel_rfl, trivial⟩, (List.length_replicate (n := 8) (a := (0 : Int))), hs.pk (.c d2 (.c d1 (.c d0 .n)))⟩ ?_ rfl ?_
 ·clear HR33 m34 H
  rintro k' ρ h ⟨x27, x29, I, H, hf, hl28, hs⟩
  cases k' with
  | zero => cases H
  | succ k =>
   rw [shutterref01_Of.l1.m] at H
   refine k_fits _ hf ?_ rfl
   refine st 4 [] (k_ite H (fun c35 H => ?_) (fun c35 H => ?_))
   ·refine st 8 [true] (k_call H (fun _ m => shutterref01_Word.calls m) ?_)
    rintro t36 _ _ H ⟨rfl, rfl⟩
    obtain ⟨c37, H⟩ := guard_pos H
    refine k_val (elemPtr (some ⟨b26, 0, none⟩) (x27.toNat * 1)) (pr_indexArr (e := 3) (kk := .i64) (n := 8) (by kernel_rfl) (by kernel_rfl) (by kernel_rfl) (by kernel_rfl) c37 c35) ?_
    refine k_op (sA (hs.f d2) t36 hl28 c37 c35 ?_)
    intro h hs
    refine st 7 [] ?_
    exact k_endL ⟨k, Nat.lt_succ_self _, (w64 (x27 + 1)), (x29.set x27.toNat t36), I, H, ⟨by kernel_rfl, by kernel_rfl, by kernel_rfl, by kernel_rfl, trivial⟩, (len_set hl28), hs.pk (.c d1 (.c d1 (.c d0 .n)))⟩
   ·refine st 2 [false] ?_
    refine k_out rfl ?_
    obtain rfl := Option.some.inj H
    exact xE ⟨x29, I, rfl, ⟨by kernel_rfl, by kernel_rfl, by kernel_rfl, trivial⟩, hl28, hs.pk (.c d0 (.c d0 (.c d0 .n)))⟩
 ·rintro ρ h ⟨x32, I, rfl, hf, hl31, hs⟩
  have H := HR33
  try dsimp only at H
  refine k_fits _ hf ?_ rfl
  obtain ⟨hk, bk⟩ := hs.call tk0 (.c (qB d0) .n)
  refine st 3 [] (k_call H (fun _ m => shutterref01_Fill.calls m hk) ?_)
  rintro t38 _ h H ⟨I, _, ⟨a39, p40, n41, rfl, rfl⟩, hk⟩
  replace hs := bk hk ct1 rfl
  obtain rfl := hs.nO d0
  refine st 8 [] ?_
  obtain ⟨s46, m50, HR49⟩ := bind_some H
  refine k_loop 2 (fun k' ρ h => ∃ (x43 : Int) (x45 : List Int) (I : Gh), shutterref01_Of.l2.m K t38 k' x43 x45 = some s46 ∧ Fits [(2, .pointer (some ⟨b25, 0, none⟩)), (3, .pointer (some ⟨b26, 0, none⟩)), (5, .slice a39 t38.length p40), (6, .int .i64 x43)] ρ ∧ List.length x45 = 8 ∧ St E [rO (tInt .u8) .i a39 p40 t38.length t38, rB b25 (List.map (Value.int .u8) (List.replicate 32 (0 : Int))) 130, rB b26 (List.map (Value.int .i64) x45) 159] I h) (fun ρ h => ∃ (x48 : List Int) (I : Gh), x48 = s46 ∧ Fits [(2, .pointer (some ⟨b25, 0, none⟩)), (3, .pointer (some ⟨b26, 0, none⟩))] ρ ∧ List.length x48 = 8 ∧ St E [rB b25 (List.map (Value.int .u8) (List.replicate 32 (0 : Int))) 130, rB b26 (List.map (Value.int .i64) x48) 159] I h) K ⟨0, x32, I, m50, ⟨by kernel_rfl, by kernel_rfl, by kernel_rfl, by kernel_rfl, trivial⟩, hl31, hs.pk (.c d0 (.c d1 (.c d1 .n)))⟩ ?_ rfl ?_
  ·clear HR49 m50 H
   rintro k' ρ h ⟨x43, x45, I, H, hf, hl44, hs⟩
   cases k' with
   | zero => cases H
   | succ k =>
    rw [shutterref01_Of.l2.m] at H
    refine k_fits _ hf ?_ rfl
    refine st 6 [] (k_ite H (fun c51 H => ?_) (fun c51 H => ?_))
    ·refine st 5 [true] ?_
     obtain ⟨hs0, bk0⟩ := hs.call tk0 (.c (qL d2) (.c (qO d0) .n))
     have hs := hs0
     refine k_regD hs0 7 ?_
     refine aG 0 rfl hs.keep (by have q := (hs0.g d0).1; exact (OwnB.arrSeg (I := No) ⟨q, fun x => x⟩ hl44)) (nmL hs0 d0) ?_
     obtain ⟨c52, H⟩ := guard_pos H
     obtain ⟨c53, H⟩ := guard_pos H
     obtain ⟨c54, H⟩ := guard_pos H
     refine aRun [1, 2, 3, 4] 3 hs.keep ?_
     refine aP 5 (.slice (slA a39 p40 (Int.toNat x43) 1) ((sub t38 x43 (w64 (x43 + 64))).length) (p40 - Int.toNat x43)) rfl (pS (e := 5) (k1 := .i64) (k2 := .i64) (hs.sR d1) c52 c53 c54) hs.keep ?_
     obtain ⟨hk, bk⟩ := hs.call tk0 (.c (qP (qB d1) (lo := x43) (hi := (w64 (x43 + 64))) c52 c53 c54) .n)
     refine aO1 6 rfl (o_call H (fun _ m => shutterref01_Block.calls m hl44 hk) ?_)
     rintro t55 _ h H ⟨I, _, ⟨rfl, rfl, hl56⟩, hk⟩
     replace hs := bk hk ct0 rfl
     refine ⟨hs.keep, ?_⟩
     replace hs := hs.pk .n
     replace hs := bk0 hs ct0 rfl
     refine aOL 7 rfl (sAN (l2 := t55) (hs.f d2) hl44 hl56 ?_)
     intro h hs
     refine aEnd ?_
     refine st 6 [] ?_
     exact k_endL ⟨k, Nat.lt_succ_self _, (w64 (x43 + 64)), t55, I, H, ⟨by kernel_rfl, by kernel_rfl, by kernel_rfl, by kernel_rfl, trivial⟩, hl56, hs.pk (.c d1 (.c d1 (.c d0 .n)))⟩
    ·refine st 2 [false] ?_
     refine k_out rfl ?_
     obtain rfl := Option.some.inj H
     exact xE ⟨x45, I, rfl, ⟨by kernel_rfl, by kernel_rfl, trivial⟩, hl44, hs.pk (.c d1 (.c d1 .n))⟩
  ·rintro ρ h ⟨x48, I, rfl, hf, hl47, hs⟩
   have H := HR49
   try dsimp only at H
   refine k_fits _ hf ?_ rfl
   refine st 2 [] (k_op (nA hs (List.map (Value.int .u8) (List.replicate 32 (0 : Int))) (.agg (List.map (Value.int .u8) (List.replicate 32 (0 : Int))).toArray) ?_))
   intro b57 h hs
   refine st 7 [] ?_
   obtain ⟨s61, m65, HR64⟩ := bind_some H
   refine k_loop 4 (fun k' ρ h => ∃ (x58 : Int) (x60 : List Int) (I : Gh), shutterref01_Of.l3.m K x48 k' x58 x60 = some s61 ∧ Fits [(2, .pointer (some ⟨b25, 0, none⟩)), (3, .pointer (some ⟨b26, 0, none⟩)), (7, .pointer (some ⟨b57, 0, none⟩)), (8, .int .i64 x58)] ρ ∧ List.length x60 = 32 ∧ St E [rB b25 (List.map (Value.int .u8) (List.replicate 32 (0 : Int))) 130, rB b26 (List.map (Value.int .i64) x48) 159, rB b57 (List.map (Value.int .u8) x60) 130] I h) (fun ρ h => ∃ (x63 : List Int) (I : Gh), x63 = s61 ∧ Fits [(2, .pointer (some ⟨b25, 0, none⟩)), (7, .pointer (some ⟨b57, 0, none⟩))] ρ ∧ List.length x63 = 32 ∧ St E [rB b25 (List.map (Value.int .u8) (List.replicate 32 (0 : Int))) 130, rB b57 (List.map (Value.int .u8) x63) 130] I h) K ⟨0, (List.replicate 32 (0 : Int)), I, m65, ⟨by kernel_rfl, by kernel_rfl, by kernel_rfl, by kernel_rfl, trivial⟩, (List.length_replicate (n := 32) (a := (0 : Int))), hs.pk (.c d1 (.c d1 (.c d0 .n)))⟩ ?_ rfl ?_
   ·clear HR64 m65 H
    rintro k' ρ h ⟨x58, x60, I, H, hf, hl59, hs⟩
    cases k' with
    | zero => cases H
    | succ k =>
     rw [shutterref01_Of.l3.m] at H
     refine k_fits _ hf ?_ rfl
     refine st 4 [] (k_ite H (fun c66 H => ?_) (fun c66 H => ?_))
     ·obtain ⟨c67, H⟩ := guard_pos H
      obtain ⟨c68, H⟩ := guard_pos H
      refine st 9 [true] (k_val (elemPtr (some ⟨b26, 0, none⟩) ((w64 (Int.tdiv x58 4)).toNat * 1)) (pr_indexArr (e := 3) (kk := .i64) (n := 8) (by kernel_rfl) (by kernel_rfl) (by kernel_rfl) (by kernel_rfl) c67 c68) ?_)
      refine k_op (lC (((hs.bl d1)).arrCell (i := (w64 (Int.tdiv x58 4))) hl47 c67 c68) ?_)
      obtain ⟨c69, H⟩ := guard_pos H
      refine st 5 [] (k_val (.int .i64 (shr .i64 (at_ x48 (w64 (Int.tdiv x58 4))) (IntKind.u64.wrap ((w64 (24 - (w64 (8 * (Int.tmod x58 4))))))))) (pr_shr (k := .i64) (yk := .u64) (a := (at_ x48 (w64 (Int.tdiv x58 4)))) (b := (IntKind.u64.wrap ((w64 (24 - (w64 (8 * (Int.tmod x58 4)))))))) (by kernel_rfl) (by kernel_rfl) c69) ?_)
      obtain ⟨c70, H⟩ := guard_pos H
      refine st 2 [] (k_val (elemPtr (some ⟨b57, 0, none⟩) (x58.toNat * 1)) (pr_indexArr (e := 5) (kk := .i64) (n := 32) (by kernel_rfl) (by kernel_rfl) (by kernel_rfl) (by kernel_rfl) c70 c66) ?_)
      refine k_op (sA (hs.f d2) (IntKind.u8.wrap ((bAnd .i64 (shr .i64 (at_ x48 (w64 (Int.tdiv x58 4))) (IntKind.u64.wrap ((w64 (24 - (w64 (8 * (Int.tmod x58 4)))))))) 255))) hl59 c70 c66 ?_)
      intro h hs
      refine st 7 [] ?_
      exact k_endL ⟨k, Nat.lt_succ_self _, (w64 (x58 + 1)), (x60.set x58.toNat (IntKind.u8.wrap ((bAnd .i64 (shr .i64 (at_ x48 (w64 (Int.tdiv x58 4))) (IntKind.u64.wrap ((w64 (24 - (w64 (8 * (Int.tmod x58 4)))))))) 255)))), I, H, ⟨by kernel_rfl, by kernel_rfl, by kernel_rfl, by kernel_rfl, trivial⟩, (len_set hl59), hs.pk (.c d1 (.c d1 (.c d0 .n)))⟩
     ·refine st 2 [false] ?_
      refine k_out rfl ?_
      obtain rfl := Option.some.inj H
      exact xE ⟨x60, I, rfl, ⟨by kernel_rfl, by kernel_rfl, trivial⟩, hl59, hs.pk (.c d0 (.c d1 .n))⟩
   ·rintro ρ h ⟨x63, I, rfl, hf, hl62, hs⟩
    have H := HR64
    try dsimp only at H
    refine k_fits _ hf ?_ rfl
    refine st 2 [] (k_op (lG ((hs.bl d1).arrSeg hl62) ?_))
    refine k_op (sAN (l2 := x63) hs (List.length_replicate (n := 32) (a := (0 : Int))) hl62 ?_)
    intro h hs
    refine st 1 [] ?_
    refine k_retQ ?_
    obtain rfl := Option.some.inj H
    exact ⟨[.agg (List.map (Value.int .u8) x63).toArray], (.cons (.agg (by kernel_rfl) (by kernel_rfl) (by kernel_rfl) ((hs.bl d0).arrSeg hl62)) .nil), I, _, ⟨rfl, rfl, hl62⟩, hs.pk .n⟩

/-! shutter/shutterref02.Code -/
def shutterref02_Code.l1.m (K : Nat) : Nat → (List Int) → Option ((List Int))
  | 0, _ => none
  | k + 1, x58 => (if (x58.length : Int) < 64 then ((app x58 [0]).bind fun l74 => (shutterref02_Code.l1.m K k l74)) else (some (x58)))
def shutterref02_Code.l2.m (K : Nat) (x64 : List Int) : Nat → (List Int) → (List Int) → Int → Option ((List Int) × (List Int))
  | 0, _, _, _ => none
  | k + 1, x79, x84, x89 => (if x89 < 64 then (if 0 ≤ x89 then (if x89 < (x64.length : Int) then ((app x79 [(bXor .u8 (at_ x64 x89) 54)]).bind fun l108 => ((app x84 [(bXor .u8 (at_ x64 x89) 92)]).bind fun l115 => (shutterref02_Code.l2.m K x64 k l108 l115 (w64 (x89 + 1))))) else none) else none) else (some ((x79, x84))))
def shutterref02_Code.m (K : Nat) (x0 : (List Int)) (x1 : (List Int)) : Option (List Int) :=
  ((app [] x0).bind fun l32 => (letJ (α := (List Int) → Option (List Int)) (fun (x52 : List Int) => ((shutterref02_Code.l1.m K K x52).bind fun x64 => ((shutterref02_Code.l2.m K x64 K [] [] 0).bind fun (x91, x96) => ((app x91 x1).bind fun l120 => ((shutterref01_Of.m K l120).bind fun t125 => ((app x96 t125).bind fun l129 => ((shutterref01_Of.m K l129).bind fun t134 => (some t134)))))))) fun (j57 : (List Int) → Option (List Int)) => (letJ (α := Bool → Option (List Int)) (fun (x38 : Bool) => (bif x38 then ((shutterref01_Of.m K x0).bind fun t40 => ((app [] t40).bind fun l46 => (j57 l46))) else (j57 l32))) fun (j39 : Bool → Option (List Int)) => (if (x0.length : Int) > 64 then (j39 true) else (j39 false)))))

theorem shutterref02_Code.calls {B I : Gh} {h : Heap} {K : Nat} {x0 : (List Int)} {x1 : (List Int)} {a21 : Option Addr} {p22 : Nat} {n23 : Nat} {a25 : Option Addr} {p26 : Nat} {n27 : Nat} {r : (List Int)} (H : shutterref02_Code.m K x0 x1 = some r)  :
    Fc Tryd.prog 75 #[.slice a21 n23 p22, .slice a25 n27 p26] [rR (tInt .u8) .b a21 p22 n23 x0, rR (tInt .u8) .b a25 p26 n27 x1] B I h (fun v L => v = .agg (List.map (Value.int .u8) r).toArray ∧ L = [] ∧ List.length r = 32) := by
 refine fc_of fun E hs => ?_
 unfold shutterref02_Code.m at H
 obtain rfl := hs.nR d0
 obtain rfl := hs.nR d1
 refine fn_of2 (args := [.slice a21 x0.length p22, .slice a25 x1.length p26]) (rs := [.cell 4 130]) (N := 56) Tryd.func75 rfl rfl rfl rfl ?_
 refine st 2 [] (k_op (nA hs (List.map (Value.int .u8) (List.replicate 32 (0 : Int))) (.agg (List.map (Value.int .u8) (List.replicate 32 (0 : Int))).toArray) ?_))
 intro b29 h hs
 refine st 3 [] (k_op (nS (e := 5) hs .i (tInt .u8) ([] : List Int) [] 1 (.int .u8 0) (Reps.int (I := (Cl.G .i E.B I)) (k := .u8) (l := [])) ?_))
 intro b30 h hs
 obtain ⟨l32, m33, H⟩ := bind_some H
 refine st 1 [] (k_op (aO (e := 5) (bytes := 1) hs ((hs.sR d2).flat flat_int) m33 ?_))
 intro a34 p35 h hs
 refine st 3 [] ?_
 obtain ⟨j57, e136, H⟩ := letJ_some H
 refine k_join (fun ρ h => ∃ (x52 : List Int) (a53 : Option Addr) (p54 : Nat) (n55 : Nat) (I : Gh), j57 x52 = some r ∧ Fits [(1, .slice a25 x1.length p26), (4, .pointer (some ⟨b29, 0, none⟩)), (5, .slice a53 n55 p54)] ρ ∧ St E [rR (tInt .u8) .b a25 p26 x1.length x1, rO (tInt .u8) .i a53 p54 n55 x52, rB b29 (List.map (Value.int .u8) (List.replicate 32 (0 : Int))) 130] I h) ?_ ?_
 ·refine st 1 [] ?_
  obtain ⟨j39, e51, H⟩ := letJ_some H
  refine k_join (fun ρ h => ∃ (x38 : Bool) (I : Gh), j39 x38 = some r ∧ Fits [(0, .slice a21 x0.length p22), (1, .slice a25 x1.length p26), (4, .pointer (some ⟨b29, 0, none⟩)), (5, .slice a34 l32.length p35), (16, .bool x38)] ρ ∧ St E [rR (tInt .u8) .b a21 p22 x0.length x0, rR (tInt .u8) .b a25 p26 x1.length x1, rO (tInt .u8) .i a34 p35 l32.length l32, rB b29 (List.map (Value.int .u8) (List.replicate 32 (0 : Int))) 130] I h) ?_ ?_
  ·refine st 3 [] (k_ite H (fun c37 H => ?_) (fun c37 H => ?_))
   ·refine st 1 [] ?_
    exact k_end ⟨true, I, H, ⟨by kernel_rfl, by kernel_rfl, by kernel_rfl, by kernel_rfl, by kernel_rfl, trivial⟩, hs.pk (.c d2 (.c d2 (.c d0 (.c d0 .n))))⟩
   ·refine st 1 [] ?_
    exact k_end ⟨false, I, H, ⟨by kernel_rfl, by kernel_rfl, by kernel_rfl, by kernel_rfl, by kernel_rfl, trivial⟩, hs.pk (.c d2 (.c d2 (.c d0 (.c d0 .n))))⟩
  ·clear H
   rintro ρ h ⟨x38, I, H, hf, hs⟩
   refine k_fits _ hf ?_ rfl
   subst e51
   try dsimp only at H
   cases x38
   ·rw [cond_false] at H
    refine st 2 [false] ?_
    exact k_end ⟨l32, a34, p35, l32.length, I, H, ⟨by kernel_rfl, by kernel_rfl, by kernel_rfl, trivial⟩, hs.pk (.c d1 (.c d1 (.c d1 .n)))⟩
   ·rw [cond_true] at H
    obtain ⟨hk, bk⟩ := hs.call tk0 (.c (qB d0) .n)
    refine st 4 [true] (k_call H (fun _ m => shutterref01_Of.calls m hk) ?_)
    rintro t40 _ h H ⟨I, _, ⟨rfl, rfl, hl41⟩, hk⟩
    replace hs := bk hk ct0 rfl
    refine k_op (nA hs (List.map (Value.int .u8) (List.replicate 32 (0 : Int))) (.agg (List.map (Value.int .u8) (List.replicate 32 (0 : Int))).toArray) ?_)
    intro b42 h hs
    refine k_op (sAN (l2 := t40) hs (List.length_replicate (n := 32) (a := (0 : Int))) hl41 ?_)
    intro h hs
    refine st 2 [] (k_op (nS (e := 5) hs .i (tInt .u8) ([] : List Int) [] 1 (.int .u8 0) (Reps.int (I := (Cl.G .i E.B I)) (k := .u8) (l := [])) ?_))
    intro b43 h hs
    obtain ⟨I, hs⟩ := (hs.f d1).fA hl41
    replace hs := (hs.f d1)
    obtain ⟨l46, m47, H⟩ := bind_some H
    refine st 1 [] (k_op (aO (e := 5) (bytes := 1) hs (hs.sR d1) m47 ?_))
    intro a48 p49 h hs
    refine st 2 [] ?_
    exact k_end ⟨l46, a48, p49, l46.length, I, H, ⟨by kernel_rfl, by kernel_rfl, by kernel_rfl, trivial⟩, hs.pk (.c d3 (.c d0 (.c d3 .n)))⟩
 ·clear H
  rintro ρ h ⟨x52, a53, p54, n55, I, H, hf, hs⟩
  refine k_fits _ hf ?_ rfl
  subst e136
  try dsimp only at H
  obtain rfl := hs.nO d1
  refine st 2 [] ?_
  obtain ⟨s63, m70, HR69⟩ := bind_some H
  refine k_loop 0 (fun k' ρ h => ∃ (x58 : List Int) (a59 : Option Addr) (p60 : Nat) (n61 : Nat) (I : Gh), shutterref02_Code.l1.m K k' x58 = some s63 ∧ Fits [(1, .slice a25 x1.length p26), (4, .pointer (some ⟨b29, 0, none⟩)), (5, .slice a59 n61 p60)] ρ ∧ St E [rR (tInt .u8) .b a25 p26 x1.length x1, rO (tInt .u8) .i a59 p60 n61 x58, rB b29 (List.map (Value.int .u8) (List.replicate 32 (0 : Int))) 130] I h) (fun ρ h => ∃ (x64 : List Int) (a65 : Option Addr) (p66 : Nat) (n67 : Nat) (I : Gh), x64 = s63 ∧ Fits [(1, .slice a25 x1.length p26), (4, .pointer (some ⟨b29, 0, none⟩)), (5, .slice a65 n67 p66)] ρ ∧ St E [rR (tInt .u8) .b a25 p26 x1.length x1, rO (tInt .u8) .i a65 p66 n67 x64, rB b29 (List.map (Value.int .u8) (List.replicate 32 (0 : Int))) 130] I h) K ⟨x52, a53, p54, x52.length, I, m70, ⟨by kernel_rfl, by kernel_rfl, by kernel_rfl, trivial⟩, hs.pk (.c d0 (.c d0 (.c d0 .n)))⟩ ?_ rfl ?_
  ·clear HR69 m70 H
   rintro k' ρ h ⟨x58, a59, p60, n61, I, H, hf, hs⟩
   cases k' with
   | zero => cases H
   | succ k =>
    rw [shutterref02_Code.l1.m] at H
    refine k_fits _ hf ?_ rfl
    obtain rfl := hs.nO d1
    refine st 5 [] (k_ite H (fun c71 H => ?_) (fun c71 H => ?_))
    ·refine st 6 [true] (k_op (nS (e := 5) hs .i (tInt .u8) ([0] : List Int) [.int .u8 0] 1 (.int .u8 0) (Reps.int (I := (Cl.G .i E.B I)) (k := .u8) (l := [0])) ?_))
     intro b72 h hs
     replace hs := (hs.f d2)
     obtain ⟨l74, m75, H⟩ := bind_some H
     refine k_op (aO (e := 5) (bytes := 1) hs (hs.sO d1) m75 ?_)
     intro a76 p77 h hs
     refine st 3 [] ?_
     exact k_endL ⟨k, Nat.lt_succ_self _, l74, a76, p77, l74.length, I, H, ⟨by kernel_rfl, by kernel_rfl, by kernel_rfl, trivial⟩, hs.pk (.c d2 (.c d0 (.c d1 .n)))⟩
    ·refine st 2 [false] ?_
     refine k_out rfl ?_
     obtain rfl := Option.some.inj H
     exact xE ⟨x58, a59, p60, x58.length, I, rfl, ⟨by kernel_rfl, by kernel_rfl, by kernel_rfl, trivial⟩, hs.pk (.c d0 (.c d0 (.c d0 .n)))⟩
  ·rintro ρ h ⟨x64, a65, p66, n67, I, rfl, hf, hs⟩
   have H := HR69
   try dsimp only at H
   refine k_fits _ hf ?_ rfl
   obtain rfl := hs.nO d1
   refine st 14 [] ?_
   obtain ⟨s90, m102, HR101⟩ := bind_some H
   refine k_loop 2 (fun k' ρ h => ∃ (x79 : List Int) (x84 : List Int) (x89 : Int) (a80 : Option Addr) (p81 : Nat) (n82 : Nat) (a85 : Option Addr) (p86 : Nat) (n87 : Nat) (I : Gh), shutterref02_Code.l2.m K x64 k' x79 x84 x89 = some s90 ∧ Fits [(1, .slice a25 x1.length p26), (4, .pointer (some ⟨b29, 0, none⟩)), (5, .slice a65 x64.length p66), (7, .slice a80 n82 p81), (8, .slice a85 n87 p86), (9, .int .i64 x89)] ρ ∧ St E [rR (tInt .u8) .b a25 p26 x1.length x1, rO (tInt .u8) .i a65 p66 x64.length x64, rO (tInt .u8) .i a80 p81 n82 x79, rO (tInt .u8) .i a85 p86 n87 x84, rB b29 (List.map (Value.int .u8) (List.replicate 32 (0 : Int))) 130] I h) (fun ρ h => ∃ (x91 : List Int) (x96 : List Int) (a92 : Option Addr) (p93 : Nat) (n94 : Nat) (a97 : Option Addr) (p98 : Nat) (n99 : Nat) (I : Gh), (x91, x96) = s90 ∧ Fits [(1, .slice a25 x1.length p26), (4, .pointer (some ⟨b29, 0, none⟩)), (7, .slice a92 n94 p93), (8, .slice a97 n99 p98)] ρ ∧ St E [rR (tInt .u8) .b a25 p26 x1.length x1, rO (tInt .u8) .i a92 p93 n94 x91, rO (tInt .u8) .i a97 p98 n99 x96, rB b29 (List.map (Value.int .u8) (List.replicate 32 (0 : Int))) 130] I h) K ⟨[], [], 0, none, 0, 0, none, 0, 0, I, m102, ⟨by kernel_rfl, by kernel_rfl, by kernel_rfl, by kernel_rfl, by kernel_rfl, by kernel_rfl, trivial⟩, hs.pk (.c d0 (.c d0 (.f imON (.f imON (.c d0 .n)))))⟩ ?_ rfl ?_
   ·clear HR101 m102 H
    rintro k' ρ h ⟨x79, x84, x89, a80, p81, n82, a85, p86, n87, I, H, hf, hs⟩
    cases k' with
    | zero => cases H
    | succ k =>
     rw [shutterref02_Code.l2.m] at H
     refine k_fits _ hf ?_ rfl
     obtain rfl := hs.nO d2
     obtain rfl := hs.nO d3
     refine st 4 [] (k_ite H (fun c103 H => ?_) (fun c103 H => ?_))
     ·obtain ⟨c104, H⟩ := guard_pos H
      obtain ⟨c105, H⟩ := guard_pos H
      refine st 10 [true] (k_val (elemPtr a65 (x89.toNat * 1)) (pI (e := 5) (ik := .i64) (hs.sO d1) c104 c105) ?_)
      refine k_op (lC ((hs.sO d1).cell1 c104 c105) ?_)
      refine st 1 [] (k_op (nS (e := 5) hs .i (tInt .u8) ([(bXor .u8 (at_ x64 x89) 54)] : List Int) [.int .u8 (bXor .u8 (at_ x64 x89) 54)] 1 (.int .u8 0) (Reps.int (I := (Cl.G .i E.B I)) (k := .u8) (l := [(bXor .u8 (at_ x64 x89) 54)])) ?_))
      intro b106 h hs
      replace hs := (hs.f d3)
      obtain ⟨l108, m109, H⟩ := bind_some H
      refine k_op (aO (e := 5) (bytes := 1) hs (hs.sO d1) m109 ?_)
      intro a110 p111 h hs
      refine st 6 [] (k_val (elemPtr a65 (x89.toNat * 1)) (pI (e := 5) (ik := .i64) (hs.sO d3) c104 c105) ?_)
      refine k_op (lC ((hs.sO d3).cell1 c104 c105) ?_)
      refine st 1 [] (k_op (nS (e := 5) hs .i (tInt .u8) ([(bXor .u8 (at_ x64 x89) 92)] : List Int) [.int .u8 (bXor .u8 (at_ x64 x89) 92)] 1 (.int .u8 0) (Reps.int (I := (Cl.G .i E.B I)) (k := .u8) (l := [(bXor .u8 (at_ x64 x89) 92)])) ?_))
      intro b113 h hs
      replace hs := (hs.f d5)
      obtain ⟨l115, m116, H⟩ := bind_some H
      refine k_op (aO (e := 5) (bytes := 1) hs (hs.sO d1) m116 ?_)
      intro a117 p118 h hs
      refine st 8 [] ?_
      exact k_endL ⟨k, Nat.lt_succ_self _, l108, l115, (w64 (x89 + 1)), a110, p111, l108.length, a117, p118, l115.length, I, H, ⟨by kernel_rfl, by kernel_rfl, by kernel_rfl, by kernel_rfl, by kernel_rfl, by kernel_rfl, trivial⟩, hs.pk (.c d4 (.c d4 (.c d2 (.c d0 (.c d2 .n)))))⟩
     ·refine st 2 [false] ?_
      refine k_out rfl ?_
      obtain rfl := Option.some.inj H
      exact xE ⟨x79, x84, a80, p81, x79.length, a85, p86, x84.length, I, rfl, ⟨by kernel_rfl, by kernel_rfl, by kernel_rfl, by kernel_rfl, trivial⟩, hs.pk (.c d0 (.c d1 (.c d1 (.c d1 .n))))⟩
   ·rintro ρ h ⟨x91, x96, a92, p93, n94, a97, p98, n99, I, rfl, hf, hs⟩
    have H := HR101
    try dsimp only at H
    refine k_fits _ hf ?_ rfl
    obtain rfl := hs.nO d1
    obtain rfl := hs.nO d2
    replace hs := (hs.f d1)
    obtain ⟨l120, m121, H⟩ := bind_some H
    refine st 4 [] (k_op (aO (e := 5) (bytes := 1) hs ((hs.sR d1).flat flat_int) m121 ?_))
    intro a122 p123 h hs
    obtain ⟨hk, bk⟩ := hs.call tk0 (.c (qO d0) .n)
    refine k_call H (fun _ m => shutterref01_Of.calls m hk) ?_
    rintro t125 _ h H ⟨I, _, ⟨rfl, rfl, hl126⟩, hk⟩
    replace hs := bk hk ct0 rfl
    refine k_op (nA hs (List.map (Value.int .u8) (List.replicate 32 (0 : Int))) (.agg (List.map (Value.int .u8) (List.replicate 32 (0 : Int))).toArray) ?_)
    intro b127 h hs
    refine k_op (sAN (l2 := t125) hs (List.length_replicate (n := 32) (a := (0 : Int))) hl126 ?_)
    intro h hs
    obtain ⟨I, hs⟩ := hs.fA hl126
    replace hs := (hs.f d3)
    obtain ⟨l129, m130, H⟩ := bind_some H
    refine st 5 [] (k_op (aO (e := 5) (bytes := 1) hs (hs.sR d1) m130 ?_))
    intro a131 p132 h hs
    obtain ⟨hk, bk⟩ := hs.call tk0 (.c (qO d0) .n)
    refine k_call H (fun _ m => shutterref01_Of.calls m hk) ?_
    rintro t134 _ h H ⟨I, _, ⟨rfl, rfl, hl135⟩, hk⟩
    replace hs := bk hk ct0 rfl
    refine k_op (sAN (l2 := t134) (hs.f d4) (List.length_replicate (n := 32) (a := (0 : Int))) hl135 ?_)
    intro h hs
    refine st 1 [] ?_
    refine k_retQ ?_
    obtain rfl := Option.some.inj H
    exact ⟨[.agg (List.map (Value.int .u8) t134).toArray], (.cons (.agg (by kernel_rfl) (by kernel_rfl) (by kernel_rfl) ((hs.bl d0).arrSeg hl135)) .nil), I, _, ⟨rfl, rfl, hl135⟩, hs.pk .n⟩

/-! shutter/shutterref02.Tag -/
def shutterref02_Tag.m (K : Nat) (x0 : (List Int)) (x1 : (List Int)) : Option (List Int) :=
  ((shutterref02_Code.m K x0 x1).bind fun t29 => ((app [] (sub t29 0 16)).bind fun l36 => (some l36)))

theorem shutterref02_Tag.calls {B I : Gh} {h : Heap} {K : Nat} {x0 : (List Int)} {x1 : (List Int)} {a21 : Option Addr} {p22 : Nat} {n23 : Nat} {a25 : Option Addr} {p26 : Nat} {n27 : Nat} {r : (List Int)} (H : shutterref02_Tag.m K x0 x1 = some r)  :
    Fc Tryd.prog 51 #[.slice a21 n23 p22, .slice a25 n27 p26] [rR (tInt .u8) .b a21 p22 n23 x0, rR (tInt .u8) .b a25 p26 n27 x1] B I h (fun v L => ∃ (a41 : Option Addr) (p42 : Nat) (n43 : Nat), v = .slice a41 n43 p42 ∧ L = [rO (tInt .u8) .i a41 p42 n43 r]) := by
 refine fc_of fun E hs => ?_
 unfold shutterref02_Tag.m at H
 obtain rfl := hs.nR d0
 obtain rfl := hs.nR d1
 refine fn_of (args := [.slice a21 x0.length p22, .slice a25 x1.length p26]) (rs := [.tmp 4]) (N := 12) Tryd.func51 rfl rfl rfl rfl ?_
 obtain ⟨hk, bk⟩ := hs.call tk0 (.c (qB d0) (.c (qB d1) .n))
 refine st 8 [] (k_call H (fun _ m => shutterref02_Code.calls m hk) ?_)
 rintro t29 _ h H ⟨I, _, ⟨rfl, rfl, hl30⟩, hk⟩
 replace hs := bk hk ct0 rfl
 refine k_op (nA hs (List.map (Value.int .u8) (List.replicate 32 (0 : Int))) (.agg (List.map (Value.int .u8) (List.replicate 32 (0 : Int))).toArray) ?_)
 intro b31 h hs
 refine k_op (sAN (l2 := t29) hs (List.length_replicate (n := 32) (a := (0 : Int))) hl30 ?_)
 intro h hs
 refine st 3 [] (k_op (nS (e := 5) hs .i (tInt .u8) ([] : List Int) [] 1 (.int .u8 0) (Reps.int (I := (Cl.G .i E.B I)) (k := .u8) (l := [])) ?_))
 intro b32 h hs
 obtain ⟨I, hs⟩ := (hs.f d1).fA hl30
 replace hs := hs.part d0 (lo := 0) (hi := 16) (Int.le_refl 0) (by decide) (by rw [hl30]; decide)
 refine k_val (.slice (slA (some ⟨b31, 0, none⟩) 32 (Int.toNat (0 : Int)) 1) ((sub t29 0 16).length) (32 - Int.toNat (0 : Int))) (pSA (lo := 0) (hi := 16) 16 (by rw [hl30]; decide)) ?_
 replace hs := (hs.f d2)
 obtain ⟨l36, m37, H⟩ := bind_some H
 refine k_op (aO (e := 5) (bytes := 1) hs (hs.sR d1) m37 ?_)
 intro a38 p39 h hs
 refine st 2 [] ?_
 refine k_retQ ?_
 obtain rfl := Option.some.inj H
 exact ⟨_, by kernel_rfl, I, _, ⟨a38, p39, l36.length, rfl, rfl⟩, hs.pk (.c d0 .n)⟩

/-! shutter/shutterref19.Seal -/
def shutterref19_Seal.l1.m (K : Nat) (x1 : api_Frame) : Nat → (List Int) → Int → Option ((List Int))
  | 0, _, _ => none
  | k + 1, x32, x37 => (if x37 ≥ 0 then (if 0 ≤ (IntKind.u64.wrap ((w64 (8 * x37)))) then ((app x32 [(IntKind.u8.wrap ((bAnd .i64 (shr .i64 x1.Seq (IntKind.u64.wrap ((w64 (8 * x37))))) 255)))]).bind fun l50 => (shutterref19_Seal.l1.m K x1 k l50 (w64 (x37 - 1)))) else none) else (some (x32)))
def shutterref19_Seal.m (K : Nat) (x0 : (List Int)) (x1 : api_Frame) : Option (List Int) :=
  ((shutterref19_Seal.l1.m K x1 K [1, (IntKind.u8.wrap (x1.Dir))] 7).bind fun x39 => ((app x39 x1.Body).bind fun l55 => ((shutterref02_Tag.m K x0 l55).bind fun t60 => ((app l55 t60).bind fun l65 => (some l65)))))

theorem shutterref19_Seal.calls {B I : Gh} {h : Heap} {K : Nat} {x0 : (List Int)} {x1 : api_Frame} {a21 : Option Addr} {p22 : Nat} {n23 : Nat} {a25 : Option Addr} {p26 : Nat} {n27 : Nat} {r : (List Int)} (H : shutterref19_Seal.m K x0 x1 = some r)  :
    Fc Tryd.prog 25 #[.slice a21 n23 p22, .agg #[.int .i64 x1.Dir, .int .i64 x1.Seq, .slice a25 n27 p26]] [rR (tInt .u8) .b a21 p22 n23 x0, rR (tInt .u8) .b a25 p26 n27 x1.Body] B I h (fun v L => ∃ (a70 : Option Addr) (p71 : Nat) (n72 : Nat), v = .slice a70 n72 p71 ∧ L = [rO (tInt .u8) .i a70 p71 n72 r]) := by
 refine fc_of fun E hs => ?_
 unfold shutterref19_Seal.m at H
 obtain rfl := hs.nR d0
 obtain rfl := hs.nR d1
 refine fn_of (args := [.slice a21 x0.length p22, .agg #[.int .i64 x1.Dir, .int .i64 x1.Seq, .slice a25 x1.Body.length p26]]) (rs := [.tmp 4]) (N := 35) Tryd.func25 rfl rfl rfl rfl ?_
 refine st 2 [] (k_op (nB hs [.int .i64 x1.Dir, .int .i64 x1.Seq, .slice a25 x1.Body.length p26] ?_))
 intro b29 h hs
 refine st 5 [] (k_op (lB (hs.bl d0) 0 rfl ?_))
 refine st 1 [] (k_op (nS (e := 5) hs .i (tInt .u8) ([1, (IntKind.u8.wrap (x1.Dir))] : List Int) [.int .u8 1, .int .u8 (IntKind.u8.wrap (x1.Dir))] 1 (.int .u8 0) (Reps.int (I := (Cl.G .i E.B I)) (k := .u8) (l := [1, (IntKind.u8.wrap (x1.Dir))])) ?_))
 intro b30 h hs
 refine st 8 [] ?_
 obtain ⟨s38, m45, HR44⟩ := bind_some H
 refine k_loop 0 (fun k' ρ h => ∃ (x32 : List Int) (x37 : Int) (a33 : Option Addr) (p34 : Nat) (n35 : Nat) (I : Gh), shutterref19_Seal.l1.m K x1 k' x32 x37 = some s38 ∧ Fits [(0, .slice a21 x0.length p22), (3, .pointer (some ⟨b29, 0, none⟩)), (5, .slice a33 n35 p34), (6, .int .i64 x37)] ρ ∧ St E [rR (tInt .u8) .b a21 p22 x0.length x0, rO (tInt .u8) .i a33 p34 n35 x32, rR (tInt .u8) .b a25 p26 x1.Body.length x1.Body, rB b29 [.int .i64 x1.Dir, .int .i64 x1.Seq, .slice a25 x1.Body.length p26] 70] I h) (fun ρ h => ∃ (x39 : List Int) (a40 : Option Addr) (p41 : Nat) (n42 : Nat) (I : Gh), x39 = s38 ∧ Fits [(0, .slice a21 x0.length p22), (3, .pointer (some ⟨b29, 0, none⟩)), (5, .slice a40 n42 p41)] ρ ∧ St E [rR (tInt .u8) .b a21 p22 x0.length x0, rO (tInt .u8) .i a40 p41 n42 x39, rR (tInt .u8) .b a25 p26 x1.Body.length x1.Body, rB b29 [.int .i64 x1.Dir, .int .i64 x1.Seq, .slice a25 x1.Body.length p26] 70] I h) K ⟨[1, (IntKind.u8.wrap (x1.Dir))], 7, (some ⟨b30, 0, none⟩), 2, 2, I, m45, ⟨by kernel_rfl, by kernel_rfl, by kernel_rfl, by kernel_rfl, trivial⟩, hs.pk (.c d2 (.c d0 (.c d1 (.c d0 .n))))⟩ ?_ rfl ?_
 ·clear HR44 m45 H
  rintro k' ρ h ⟨x32, x37, a33, p34, n35, I, H, hf, hs⟩
  cases k' with
  | zero => cases H
  | succ k =>
   rw [shutterref19_Seal.l1.m] at H
   refine k_fits _ hf ?_ rfl
   obtain rfl := hs.nO d1
   refine st 4 [] (k_ite H (fun c46 H => ?_) (fun c46 H => ?_))
   ·refine st 8 [true] (k_op (lB (hs.bl d3) 1 rfl ?_))
    obtain ⟨c47, H⟩ := guard_pos H
    refine st 3 [] (k_val (.int .i64 (shr .i64 x1.Seq (IntKind.u64.wrap ((w64 (8 * x37)))))) (pr_shr (k := .i64) (yk := .u64) (a := x1.Seq) (b := (IntKind.u64.wrap ((w64 (8 * x37))))) (by kernel_rfl) (by kernel_rfl) c47) ?_)
    refine st 2 [] (k_op (nS (e := 5) hs .i (tInt .u8) ([(IntKind.u8.wrap ((bAnd .i64 (shr .i64 x1.Seq (IntKind.u64.wrap ((w64 (8 * x37))))) 255)))] : List Int) [.int .u8 (IntKind.u8.wrap ((bAnd .i64 (shr .i64 x1.Seq (IntKind.u64.wrap ((w64 (8 * x37))))) 255)))] 1 (.int .u8 0) (Reps.int (I := (Cl.G .i E.B I)) (k := .u8) (l := [(IntKind.u8.wrap ((bAnd .i64 (shr .i64 x1.Seq (IntKind.u64.wrap ((w64 (8 * x37))))) 255)))])) ?_))
    intro b48 h hs
    replace hs := (hs.f d2)
    obtain ⟨l50, m51, H⟩ := bind_some H
    refine k_op (aO (e := 5) (bytes := 1) hs (hs.sO d1) m51 ?_)
    intro a52 p53 h hs
    refine st 8 [] ?_
    exact k_endL ⟨k, Nat.lt_succ_self _, l50, (w64 (x37 - 1)), a52, p53, l50.length, I, H, ⟨by kernel_rfl, by kernel_rfl, by kernel_rfl, by kernel_rfl, trivial⟩, hs.pk (.c d2 (.c d0 (.c d1 (.c d1 .n))))⟩
   ·refine st 2 [false] ?_
    refine k_out rfl ?_
    obtain rfl := Option.some.inj H
    exact xE ⟨x32, a33, p34, x32.length, I, rfl, ⟨by kernel_rfl, by kernel_rfl, by kernel_rfl, trivial⟩, hs.pk (.c d0 (.c d0 (.c d0 (.c d0 .n))))⟩
 ·rintro ρ h ⟨x39, a40, p41, n42, I, rfl, hf, hs⟩
  have H := HR44
  try dsimp only at H
  refine k_fits _ hf ?_ rfl
  obtain rfl := hs.nO d1
  refine st 4 [] (k_op (lB (hs.bl d3) 2 rfl ?_))
  replace hs := (hs.f d1)
  obtain ⟨l55, m56, H⟩ := bind_some H
  refine k_op (aO (e := 5) (bytes := 1) hs ((hs.sR d2).flat flat_int) m56 ?_)
  intro a57 p58 h hs
  obtain ⟨hk, bk⟩ := hs.call tk0 (.c (qB d1) (.c (qO d0) .n))
  refine st 7 [] (k_call H (fun _ m => shutterref02_Tag.calls m hk) ?_)
  rintro t60 _ h H ⟨I, _, ⟨a61, p62, n63, rfl, rfl⟩, hk⟩
  replace hs := bk hk ct1 rfl
  obtain rfl := hs.nO d0
  replace hs := (hs.f d1)
  obtain ⟨l65, m66, H⟩ := bind_some H
  refine k_op (aO (e := 5) (bytes := 1) hs (hs.sO d1) m66 ?_)
  intro a67 p68 h hs
  refine st 2 [] ?_
  refine k_retQ ?_
  obtain rfl := Option.some.inj H
  exact ⟨_, by kernel_rfl, I, _, ⟨a67, p68, l65.length, rfl, rfl⟩, hs.pk (.c d0 .n)⟩

/-! slices.Clone[[]byte,byte] -/
def slices_Clone_bytes.m (x0 : (List Int)) : Option (List Int) :=
  ((app [] x0).bind fun l29 => (some l29))

theorem slices_Clone_bytes.calls {B I : Gh} {h : Heap} {x0 : (List Int)} {a21 : Option Addr} {p22 : Nat} {n23 : Nat} {r : (List Int)} (H : slices_Clone_bytes.m x0 = some r)  :
    Fc Tryd.prog 59 #[.slice a21 n23 p22] [rR (tInt .u8) .b a21 p22 n23 x0] B I h (fun v L => ∃ (a34 : Option Addr) (p35 : Nat) (n36 : Nat), v = .slice a34 n36 p35 ∧ L = [rO (tInt .u8) .i a34 p35 n36 r]) := by
 refine fc_of fun E hs => ?_
 unfold slices_Clone_bytes.m at H
 obtain rfl := hs.nR d0
 refine fn_of (args := [.slice a21 x0.length p22]) (rs := [.tmp 2]) (N := 8) Tryd.func59 rfl rfl rfl rfl ?_
 rcases a21 with _ | ad25
 ·have e26 := ((hs.sR d0).toSl.nil rfl).1
  replace H : (some []) = some r := by simpa [app, Lim, e26] using H
  refine st 15 [true] ?_
  refine k_retQ ?_
  obtain rfl := Option.some.inj H
  exact ⟨_, by kernel_rfl, I, _, ⟨none, 0, 0, rfl, rfl⟩, hs.pk (.f imON .n)⟩
 ·refine st 14 [false] (k_op (nS (e := 5) hs .i (tInt .u8) ([] : List Int) [] 1 (.int .u8 0) (Reps.int (I := (Cl.G .i E.B I)) (k := .u8) (l := [])) ?_))
  intro b27 h hs
  obtain ⟨l29, m30, H⟩ := bind_some H
  refine st 1 [] (k_op (aO (e := 5) (bytes := 1) hs ((hs.sR d1).flat flat_int) m30 ?_))
  intro a31 p32 h hs
  refine st 2 [] ?_
  refine k_retQ ?_
  obtain rfl := Option.some.inj H
  exact ⟨_, by kernel_rfl, I, _, ⟨a31, p32, l29.length, rfl, rfl⟩, hs.pk (.c d0 .n)⟩

/-! slices.Clone[[][]byte,[]byte] -/
def slices_Clone_byte.m (x0 : (List (List Int))) : Option (List (List Int)) :=
  ((app [] x0).bind fun l29 => (some l29))

theorem slices_Clone_byte.calls {B I : Gh} {h : Heap} {x0 : (List (List Int))} {a21 : Option Addr} {p22 : Nat} {n23 : Nat} {r : (List (List Int))} (H : slices_Clone_byte.m x0 = some r)  :
    Fc Tryd.prog 96 #[.slice a21 n23 p22] [rR (tSl (tInt .u8)) .i a21 p22 n23 x0] B I h (fun v L => ∃ (a34 : Option Addr) (p35 : Nat) (n36 : Nat), v = .slice a34 n36 p35 ∧ L = [rO (tSl (tInt .u8)) .i a34 p35 n36 r]) := by
 refine fc_of fun E hs => ?_
 unfold slices_Clone_byte.m at H
 obtain rfl := hs.nR d0
 refine fn_of (args := [.slice a21 x0.length p22]) (rs := [.tmp 2]) (N := 8) Tryd.func96 rfl rfl rfl rfl ?_
 rcases a21 with _ | ad25
 ·have e26 := ((hs.sR d0).toSl.nil rfl).1
  replace H : (some []) = some r := by simpa [app, Lim, e26] using H
  refine st 15 [true] ?_
  refine k_retQ ?_
  obtain rfl := Option.some.inj H
  exact ⟨_, by kernel_rfl, I, _, ⟨none, 0, 0, rfl, rfl⟩, hs.pk (.f imON .n)⟩
 ·refine st 14 [false] (k_op (nS (e := 47) hs .i (tSl (tInt .u8)) ([] : List (List Int)) [] 1 (.slice none 0 0) (.nil : Reps (tSl (tInt .u8)) (Cl.G .i E.B I) h [] []) ?_))
  intro b27 h hs
  obtain ⟨l29, m30, H⟩ := bind_some H
  refine st 1 [] (k_op (aO (e := 47) (bytes := 24) hs (hs.sR d1) m30 ?_))
  intro a31 p32 h hs
  refine st 2 [] ?_
  refine k_retQ ?_
  obtain rfl := Option.some.inj H
  exact ⟨_, by kernel_rfl, I, _, ⟨a31, p32, l29.length, rfl, rfl⟩, hs.pk (.c d0 .n)⟩

/-! shutter/hash.digits -/
def hash_digits.l1.m (K : Nat) (x0 : ByteArray) (x1 : Int) : Nat → Int → Int → Option (Int)
  | 0, _, _ => none
  | k + 1, x27, x28 => (letJ (α := Bool → Option (Int)) (fun (x34 : Bool) => (bif x34 then (if 0 ≤ x28 then (if x28 < ((strL (bsub x0 (w64 (8 * x1)) (w64 ((w64 (8 * x1)) + 8)))).length : Int) then (if (at_ (strL (bsub x0 (w64 (8 * x1)) (w64 ((w64 (8 * x1)) + 8)))) x28) ≥ 97 then (hash_digits.l1.m K x0 x1 k (bOr .u32 (shl .u32 x27 4) (IntKind.u32.wrap ((IntKind.u8.wrap ((at_ (strL (bsub x0 (w64 (8 * x1)) (w64 ((w64 (8 * x1)) + 8)))) x28) - 87))))) (w64 (x28 + 1))) else (hash_digits.l1.m K x0 x1 k (bOr .u32 (shl .u32 x27 4) (IntKind.u32.wrap ((IntKind.u8.wrap ((at_ (strL (bsub x0 (w64 (8 * x1)) (w64 ((w64 (8 * x1)) + 8)))) x28) - 48))))) (w64 (x28 + 1)))) else none) else none) else (some (x27)))) fun (j35 : Bool → Option (Int)) => (if x28 < ((strL (bsub x0 (w64 (8 * x1)) (w64 ((w64 (8 * x1)) + 8)))).length : Int) then (j35 true) else (j35 false)))
def hash_digits.m (K : Nat) (x0 : ByteArray) (x1 : Int) : Option Int :=
  (if 0 ≤ (w64 (8 * x1)) then (if (w64 (8 * x1)) ≤ (w64 ((w64 (8 * x1)) + 8)) then (if (w64 ((w64 (8 * x1)) + 8)) ≤ (x0.size : Int) then ((hash_digits.l1.m K x0 x1 K 0 0).bind fun x30 => (some x30)) else none) else none) else none)

theorem hash_digits.calls {B I : Gh} {h : Heap} {K : Nat} {x0 : ByteArray} {x1 : Int} {r : Int} (H : hash_digits.m K x0 x1 = some r)  :
    Fc Tryd.prog 105 #[.string x0, .int .i64 x1] [] B I h (fun v L => v = .int .u32 r ∧ L = []) := by
 refine fc_of fun E hs => ?_
 unfold hash_digits.m at H
 refine fn_of (args := [.string x0, .int .i64 x1]) (rs := [.tmp 4]) (N := 35) Tryd.func105 rfl rfl rfl rfl ?_
 obtain ⟨c21, H⟩ := guard_pos H
 obtain ⟨c22, H⟩ := guard_pos H
 obtain ⟨c23, H⟩ := guard_pos H
 refine st 17 [] (k_val (.string (bsub x0 (w64 (8 * x1)) (w64 ((w64 (8 * x1)) + 8)))) (pr_sliceStr_lh (s := x0) (k1 := .i64) (k2 := .i64) (by kernel_rfl) (by kernel_rfl) (by kernel_rfl) (by kernel_rfl) c21 c22 c23) ?_)
 refine k_op (nZ (e := 5) (s := (bsub x0 (w64 (8 * x1)) (w64 ((w64 (8 * x1)) + 8)))) hs ?_)
 intro I b24 p25 h hs
 refine st 4 [] ?_
 obtain ⟨s29, m32, HR31⟩ := bind_some H
 refine k_loop 0 (fun k' ρ h => ∃ (x27 : Int) (x28 : Int) (I : Gh), hash_digits.l1.m K x0 x1 k' x27 x28 = some s29 ∧ Fits [(5, .int .u32 x27), (15, .slice (some ⟨b24, 0, none⟩) ((strL (bsub x0 (w64 (8 * x1)) (w64 ((w64 (8 * x1)) + 8)))).length) p25), (16, .int .i64 ((strL (bsub x0 (w64 (8 * x1)) (w64 ((w64 (8 * x1)) + 8)))).length : Int)), (17, .int .i64 x28)] ρ ∧ St E [rR (tInt .u8) .i (some ⟨b24, 0, none⟩) p25 ((strL (bsub x0 (w64 (8 * x1)) (w64 ((w64 (8 * x1)) + 8)))).length) (strL (bsub x0 (w64 (8 * x1)) (w64 ((w64 (8 * x1)) + 8))))] I h) (fun ρ h => ∃ (x30 : Int) (I : Gh), x30 = s29 ∧ Fits [(5, .int .u32 x30)] ρ ∧ St E [] I h) K ⟨0, 0, I, m32, ⟨by kernel_rfl, by kernel_rfl, by kernel_rfl, by kernel_rfl, trivial⟩, hs.pk (.c d0 .n)⟩ ?_ rfl ?_
 ·clear HR31 m32 H
  rintro k' ρ h ⟨x27, x28, I, H, hf, hs⟩
  cases k' with
  | zero => cases H
  | succ k =>
   rw [hash_digits.l1.m] at H
   refine k_fits _ hf ?_ rfl
   refine st 1 [] ?_
   obtain ⟨j35, e39, H⟩ := letJ_some H
   refine k_join (fun ρ h => ∃ (x34 : Bool) (I : Gh), j35 x34 = some s29 ∧ Fits [(5, .int .u32 x27), (15, .slice (some ⟨b24, 0, none⟩) ((strL (bsub x0 (w64 (8 * x1)) (w64 ((w64 (8 * x1)) + 8)))).length) p25), (16, .int .i64 ((strL (bsub x0 (w64 (8 * x1)) (w64 ((w64 (8 * x1)) + 8)))).length : Int)), (17, .int .i64 x28), (18, .bool x34)] ρ ∧ St E [rR (tInt .u8) .i (some ⟨b24, 0, none⟩) p25 ((strL (bsub x0 (w64 (8 * x1)) (w64 ((w64 (8 * x1)) + 8)))).length) (strL (bsub x0 (w64 (8 * x1)) (w64 ((w64 (8 * x1)) + 8))))] I h) ?_ ?_
   ·refine st 1 [] (k_ite H (fun c33 H => ?_) (fun c33 H => ?_))
    ·refine st 1 [] ?_
     exact k_end ⟨true, I, H, ⟨by kernel_rfl, by kernel_rfl, by kernel_rfl, by kernel_rfl, by kernel_rfl, trivial⟩, hs.pk (.c d0 .n)⟩
    ·refine st 1 [] ?_
     exact k_end ⟨false, I, H, ⟨by kernel_rfl, by kernel_rfl, by kernel_rfl, by kernel_rfl, by kernel_rfl, trivial⟩, hs.pk (.c d0 .n)⟩
   ·clear H
    rintro ρ h ⟨x34, I, H, hf, hs⟩
    refine k_fits _ hf ?_ rfl
    subst e39
    try dsimp only at H
    cases x34
    ·rw [cond_false] at H
     refine st 2 [false] ?_
     refine k_out rfl ?_
     obtain rfl := Option.some.inj H
     exact xE ⟨x27, I, rfl, ⟨by kernel_rfl, trivial⟩, hs.pk .n⟩
    ·rw [cond_true] at H
     obtain ⟨c36, H⟩ := guard_pos H
     obtain ⟨c37, H⟩ := guard_pos H
     refine st 7 [true] (k_val (elemPtr (some ⟨b24, 0, none⟩) (x28.toNat * 1)) (pI (e := 5) (ik := .i64) (hs.sR d0) c36 c37) ?_)
     refine k_op (lC ((hs.sR d0).cell1 c36 c37) ?_)
     refine st 7 [] (k_ite H (fun c38 H => ?_) (fun c38 H => ?_))
     ·refine st 22 [true] ?_
      exact k_endL ⟨k, Nat.lt_succ_self _, (bOr .u32 (shl .u32 x27 4) (IntKind.u32.wrap ((IntKind.u8.wrap ((at_ (strL (bsub x0 (w64 (8 * x1)) (w64 ((w64 (8 * x1)) + 8)))) x28) - 87))))), (w64 (x28 + 1)), I, H, ⟨by kernel_rfl, by kernel_rfl, by kernel_rfl, by kernel_rfl, trivial⟩, hs.pk (.c d0 .n)⟩
     ·refine st 22 [false] ?_
      exact k_endL ⟨k, Nat.lt_succ_self _, (bOr .u32 (shl .u32 x27 4) (IntKind.u32.wrap ((IntKind.u8.wrap ((at_ (strL (bsub x0 (w64 (8 * x1)) (w64 ((w64 (8 * x1)) + 8)))) x28) - 48))))), (w64 (x28 + 1)), I, H, ⟨by kernel_rfl, by kernel_rfl, by kernel_rfl, by kernel_rfl, trivial⟩, hs.pk (.c d0 .n)⟩
 ·rintro ρ h ⟨x30, I, rfl, hf, hs⟩
  have H := HR31
  try dsimp only at H
  refine k_fits _ hf ?_ rfl
  refine st 5 [] ?_
  refine k_retQ ?_
  obtain rfl := Option.some.inj H
  exact ⟨_, by kernel_rfl, I, _, ⟨rfl, rfl⟩, hs.pk .n⟩

/-! shutter/hash.New -/
def hash_New.l1.m (K : Nat) : Nat → Int → Int → Int → Int → Int → Int → Int → Int → Int → (List Int) → Int → Option (Int × Int × Int × Int × Int × Int × Int × Int × (List Int) × Int)
  | 0, _, _, _, _, _, _, _, _, _, _, _ => none
  | k + 1, x22, x23, x24, x25, x26, x27, x28, x29, x30, x31, x36 => (letJ (α := Bool → Option (Int × Int × Int × Int × Int × Int × Int × Int × (List Int) × Int)) (fun (x55 : Bool) => (bif x55 then ((hash_digits.m K (⟨#[54, 97, 48, 57, 101, 54, 54, 55, 98, 98, 54, 55, 97, 101, 56, 53, 51, 99, 54, 101, 102, 51, 55, 50, 97, 53, 52, 102, 102, 53, 51, 97, 53, 49, 48, 101, 53, 50, 55, 102, 57, 98, 48, 53, 54, 56, 56, 99, 49, 102, 56, 51, 100, 57, 97, 98, 53, 98, 101, 48, 99, 100, 49, 57]⟩ : ByteArray) x22).bind fun t57 => (if 0 ≤ x22 then (if x22 < 8 then (hash_New.l1.m K k (w64 (x22 + 1)) (at_ ([x23, x24, x25, x26, x27, x28, x29, x30].set x22.toNat t57) 0) (at_ ([x23, x24, x25, x26, x27, x28, x29, x30].set x22.toNat t57) 1) (at_ ([x23, x24, x25, x26, x27, x28, x29, x30].set x22.toNat t57) 2) (at_ ([x23, x24, x25, x26, x27, x28, x29, x30].set x22.toNat t57) 3) (at_ ([x23, x24, x25, x26, x27, x28, x29, x30].set x22.toNat t57) 4) (at_ ([x23, x24, x25, x26, x27, x28, x29, x30].set x22.toNat t57) 5) (at_ ([x23, x24, x25, x26, x27, x28, x29, x30].set x22.toNat t57) 6) (at_ ([x23, x24, x25, x26, x27, x28, x29, x30].set x22.toNat t57) 7) x31 x36) else none) else none)) else (some ((x23, x24, x25, x26, x27, x28, x29, x30, x31, x36))))) fun (j56 : Bool → Option (Int × Int × Int × Int × Int × Int × Int × Int × (List Int) × Int)) => (if x22 < 8 then (j56 true) else (j56 false)))
def hash_New.m (K : Nat)  : Option hash_Sum :=
  ((hash_New.l1.m K K 0 0 0 0 0 0 0 0 0 [] 0).bind fun (x38, x39, x40, x41, x42, x43, x44, x45, x46, x51) => (some (⟨[x38, x39, x40, x41, x42, x43, x44, x45], x46, x51⟩ : hash_Sum)))

theorem hash_New.calls {B I : Gh} {h : Heap} {K : Nat} {r : hash_Sum} (H : hash_New.m K = some r)  :
    Fc Tryd.prog 100 #[] [] B I h (fun v L => ∃ (b61 : Nat) (a63 : Option Addr) (p64 : Nat) (n65 : Nat), v = .pointer (some ⟨b61, 0, none⟩) ∧ L = [rB b61 [.int .u32 (at_ r.h' 0), .int .u32 (at_ r.h' 1), .int .u32 (at_ r.h' 2), .int .u32 (at_ r.h' 3), .int .u32 (at_ r.h' 4), .int .u32 (at_ r.h' 5), .int .u32 (at_ r.h' 6), .int .u32 (at_ r.h' 7), .slice a63 n65 p64, .int .u64 r.n'] 174, rO (tInt .u8) .i a63 p64 n65 r.rest'] ∧ List.length r.h' = 8) := by
 refine fc_of fun E hs => ?_
 unfold hash_New.m at H
 refine fn_of (args := []) (rs := [.tmp 0]) (N := 17) Tryd.func100 rfl rfl rfl rfl ?_
 refine st 7 [] (k_op (nB hs [.int .u32 0, .int .u32 0, .int .u32 0, .int .u32 0, .int .u32 0, .int .u32 0, .int .u32 0, .int .u32 0, .slice none 0 0, .int .u64 0] ?_))
 intro b21 h hs
 refine st 8 [] ?_
 obtain ⟨s37, m53, HR52⟩ := bind_some H
 refine k_loop 0 (fun k' ρ h => ∃ (x22 : Int) (x23 : Int) (x24 : Int) (x25 : Int) (x26 : Int) (x27 : Int) (x28 : Int) (x29 : Int) (x30 : Int) (x31 : List Int) (x36 : Int) (a32 : Option Addr) (p33 : Nat) (n34 : Nat) (I : Gh), hash_New.l1.m K k' x22 x23 x24 x25 x26 x27 x28 x29 x30 x31 x36 = some s37 ∧ Fits [(1, .pointer (some ⟨b21, 0, none⟩)), (5, .int .i64 x22)] ρ ∧ St E [rO (tInt .u8) .i a32 p33 n34 x31, rB b21 [.int .u32 x23, .int .u32 x24, .int .u32 x25, .int .u32 x26, .int .u32 x27, .int .u32 x28, .int .u32 x29, .int .u32 x30, .slice a32 n34 p33, .int .u64 x36] 174] I h) (fun ρ h => ∃ (x38 : Int) (x39 : Int) (x40 : Int) (x41 : Int) (x42 : Int) (x43 : Int) (x44 : Int) (x45 : Int) (x46 : List Int) (x51 : Int) (a47 : Option Addr) (p48 : Nat) (n49 : Nat) (I : Gh), (x38, x39, x40, x41, x42, x43, x44, x45, x46, x51) = s37 ∧ Fits [(1, .pointer (some ⟨b21, 0, none⟩))] ρ ∧ St E [rO (tInt .u8) .i a47 p48 n49 x46, rB b21 [.int .u32 x38, .int .u32 x39, .int .u32 x40, .int .u32 x41, .int .u32 x42, .int .u32 x43, .int .u32 x44, .int .u32 x45, .slice a47 n49 p48, .int .u64 x51] 174] I h) K ⟨0, 0, 0, 0, 0, 0, 0, 0, 0, [], 0, none, 0, 0, I, m53, ⟨by kernel_rfl, by kernel_rfl, trivial⟩, hs.pk (.f imON (.c d0 .n))⟩ ?_ rfl ?_
 ·clear HR52 m53 H
  rintro k' ρ h ⟨x22, x23, x24, x25, x26, x27, x28, x29, x30, x31, x36, a32, p33, n34, I, H, hf, hs⟩
  cases k' with
  | zero => cases H
  | succ k =>
   rw [hash_New.l1.m] at H
   refine k_fits _ hf ?_ rfl
   obtain rfl := hs.nO d0
   refine st 1 [] ?_
   obtain ⟨j56, e60, H⟩ := letJ_some H
   refine k_join (fun ρ h => ∃ (x55 : Bool) (I : Gh), j56 x55 = some s37 ∧ Fits [(1, .pointer (some ⟨b21, 0, none⟩)), (5, .int .i64 x22), (6, .bool x55)] ρ ∧ St E [rO (tInt .u8) .i a32 p33 x31.length x31, rB b21 [.int .u32 x23, .int .u32 x24, .int .u32 x25, .int .u32 x26, .int .u32 x27, .int .u32 x28, .int .u32 x29, .int .u32 x30, .slice a32 x31.length p33, .int .u64 x36] 174] I h) ?_ ?_
   ·refine st 1 [] (k_ite H (fun c54 H => ?_) (fun c54 H => ?_))
    ·refine st 1 [] ?_
     exact k_end ⟨true, I, H, ⟨by kernel_rfl, by kernel_rfl, by kernel_rfl, trivial⟩, hs.pk (.c d0 (.c d0 .n))⟩
    ·refine st 1 [] ?_
     exact k_end ⟨false, I, H, ⟨by kernel_rfl, by kernel_rfl, by kernel_rfl, trivial⟩, hs.pk (.c d0 (.c d0 .n))⟩
   ·clear H
    rintro ρ h ⟨x55, I, H, hf, hs⟩
    refine k_fits _ hf ?_ rfl
    subst e60
    try dsimp only at H
    cases x55
    ·rw [cond_false] at H
     refine st 2 [false] ?_
     refine k_out rfl ?_
     obtain rfl := Option.some.inj H
     exact xE ⟨x23, x24, x25, x26, x27, x28, x29, x30, x31, x36, a32, p33, x31.length, I, rfl, ⟨by kernel_rfl, trivial⟩, hs.pk (.c d0 (.c d0 .n))⟩
    ·rw [cond_true] at H
     refine st 10 [true] ?_
     obtain ⟨hs0, bk0⟩ := hs.call tk0 .n
     have hs := hs0
     refine k_regD hs0 7 ?_
     refine aRun [0, 1, 2, 4, 5] 3 hs.keep ?_
     obtain ⟨hk, bk⟩ := hs.call tk0 .n
     refine aO1 3 rfl (o_call H (fun _ m => hash_digits.calls m hk) ?_)
     rintro t57 _ h H ⟨I, _, ⟨rfl, rfl⟩, hk⟩
     replace hs := bk hk ct0 rfl
     refine ⟨hs.keep, ?_⟩
     obtain ⟨c58, H⟩ := guard_pos H
     obtain ⟨c59, H⟩ := guard_pos H
     refine aP 6 (elemPtr (some ⟨b21, 0, none⟩) (x22.toNat * 1)) rfl (pr_indexArrO (e := 76) (kk := .i64) (n := 8) (by kernel_rfl) (by kernel_rfl) (by kernel_rfl) (by kernel_rfl) c58 c59) hs.keep ?_
     replace hs := bk0 hs ct0 rfl
     refine aOL 7 rfl (sAO (ik := .u32) (hs.f d1) [] [x23, x24, x25, x26, x27, x28, x29, x30] [.slice a32 x31.length p33, .int .u64 x36] t57 (by kernel_rfl) rfl c58 c59 ?_)
     intro h hs
     rw [arr_expand (Value.int .u32) (len_set rfl)] at hs
     replace hs : St _ (rB _ [.int .u32 (at_ ([x23, x24, x25, x26, x27, x28, x29, x30].set x22.toNat t57) 0), .int .u32 (at_ ([x23, x24, x25, x26, x27, x28, x29, x30].set x22.toNat t57) 1), .int .u32 (at_ ([x23, x24, x25, x26, x27, x28, x29, x30].set x22.toNat t57) 2), .int .u32 (at_ ([x23, x24, x25, x26, x27, x28, x29, x30].set x22.toNat t57) 3), .int .u32 (at_ ([x23, x24, x25, x26, x27, x28, x29, x30].set x22.toNat t57) 4), .int .u32 (at_ ([x23, x24, x25, x26, x27, x28, x29, x30].set x22.toNat t57) 5), .int .u32 (at_ ([x23, x24, x25, x26, x27, x28, x29, x30].set x22.toNat t57) 6), .int .u32 (at_ ([x23, x24, x25, x26, x27, x28, x29, x30].set x22.toNat t57) 7), .slice a32 x31.length p33, .int .u64 x36] _ :: _) _ _ := hs
     refine aEnd ?_
     refine st 5 [] ?_
     exact k_endL ⟨k, Nat.lt_succ_self _, (w64 (x22 + 1)), (at_ ([x23, x24, x25, x26, x27, x28, x29, x30].set x22.toNat t57) 0), (at_ ([x23, x24, x25, x26, x27, x28, x29, x30].set x22.toNat t57) 1), (at_ ([x23, x24, x25, x26, x27, x28, x29, x30].set x22.toNat t57) 2), (at_ ([x23, x24, x25, x26, x27, x28, x29, x30].set x22.toNat t57) 3), (at_ ([x23, x24, x25, x26, x27, x28, x29, x30].set x22.toNat t57) 4), (at_ ([x23, x24, x25, x26, x27, x28, x29, x30].set x22.toNat t57) 5), (at_ ([x23, x24, x25, x26, x27, x28, x29, x30].set x22.toNat t57) 6), (at_ ([x23, x24, x25, x26, x27, x28, x29, x30].set x22.toNat t57) 7), x31, x36, a32, p33, x31.length, I, H, ⟨by kernel_rfl, by kernel_rfl, trivial⟩, hs.pk (.c d1 (.c d0 .n))⟩
 ·rintro ρ h ⟨x38, x39, x40, x41, x42, x43, x44, x45, x46, x51, a47, p48, n49, I, rfl, hf, hs⟩
  have H := HR52
  try dsimp only at H
  refine k_fits _ hf ?_ rfl
  obtain rfl := hs.nO d0
  refine st 5 [] ?_
  refine k_retQ ?_
  obtain rfl := Option.some.inj H
  exact ⟨_, by kernel_rfl, I, _, ⟨b21, a47, p48, x46.length, rfl, rfl, rfl⟩, hs.pk (.c d1 (.c d0 .n))⟩

/-! shutter/hash.turn -/
def hash_turn.m (x0 : Int) (x1 : Int) : Option Int :=
  (if 0 ≤ x1 then (if 0 ≤ (w64 (32 - x1)) then (some (bOr .u32 (shr .u32 x0 x1) (shl .u32 x0 (w64 (32 - x1))))) else none) else none)

theorem hash_turn.calls {x0 : Int} {x1 : Int} {h : Heap} {r : Int} (H : hash_turn.m x0 x1 = some r)   :
    Ret Tryd.prog 109 #[.int .u32 x0, .int .i64 x1] h (fun v h' => .int .u32 r = v ∧ h' = h) := by
 unfold hash_turn.m at H
 refine fn_of (args := [.int .u32 x0, .int .i64 x1]) (rs := [.tmp 4]) (N := 13) Tryd.func109 rfl rfl rfl rfl ?_
 refine st 5 [] ?_
 refine k_regP 9 ?_
 obtain ⟨c21, H⟩ := guard_pos H
 refine aRun [0, 1] 7 Keep.refl ?_
 refine aP 2 (.int .u32 (shr .u32 x0 x1)) rfl (pr_shr (k := .u32) (yk := .i64) (a := x0) (b := x1) (by kernel_rfl) (by kernel_rfl) c21) Keep.refl ?_
 obtain ⟨c22, H⟩ := guard_pos H
 refine aRun [3, 4, 5] 3 Keep.refl ?_
 refine aP 6 (.int .u32 (shl .u32 x0 (w64 (32 - x1)))) rfl (pr_shl (k := .u32) (yk := .i64) (a := x0) (b := (w64 (32 - x1))) (by kernel_rfl) (by kernel_rfl) c22) Keep.refl ?_
 refine aRun [7, 8] 0 Keep.refl ?_
 refine aEnd ?_
 refine k_retQ ?_
 obtain rfl := Option.some.inj H
 exact ⟨_, by kernel_rfl, rfl, rfl⟩

end Go.Proofs.YtpkcckaaocannaaDoor.Sx
