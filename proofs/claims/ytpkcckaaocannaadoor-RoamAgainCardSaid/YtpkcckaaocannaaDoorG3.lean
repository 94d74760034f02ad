/- Printed walks, part 3: each function's model, and that the code comes to it. -/
import Derived.Test.YtpkcckaaocannaaDoorProg
import Derived.Test.YtpkcckaaocannaaDoorV4
import Derived.Test.YtpkcckaaocannaaDoorV5
import Derived.Test.YtpkcckaaocannaaDoorG2
namespace Go.Proofs.YtpkcckaaocannaaDoor.Sx
open Go
set_option maxRecDepth 100000
set_option maxHeartbeats 4000000

/-! shutter/shutterlaw21.awake -/
def shutterlaw21_awake.m (K : Nat)  : Option Bool :=
  (letJ (α := (List Int) → Int → Int → Int → ByteArray → Int → (List Int) → GoErr → Option Bool) (fun (x734 : List Int) (x739 : Int) (x740 : Int) (x741 : Int) (x742 : ByteArray) (x743 : Int) (x744 : List Int) (x749 : GoErr) => (letJ (α := (List Int) → Int → Int → Int → ByteArray → Int → GoErr → Option Bool) (fun (x838 : List Int) (x843 : Int) (x844 : Int) (x845 : Int) (x846 : ByteArray) (x847 : Int) (x848 : GoErr) => ((roam_Gate_Come.m K (⟨x838, x843, (⟨x844, x845⟩ : api_Seen), (⟨x846, x847⟩ : api_Peer)⟩ : roam_Gate) (⟨#[122]⟩ : ByteArray) [110, 111]).bind fun t854 => (if x749 = GoErr.nil then (bif ((strOf x744) == (⟨#[98]⟩ : ByteArray)) then ((roam_Gate_Known.m (⟨x734, x739, (⟨x740, x741⟩ : api_Seen), (⟨x742, x743⟩ : api_Peer)⟩ : roam_Gate)).bind fun t870 => bif t870 then ((roam_Gate_Known.m (⟨[107], 0, (⟨0, 0⟩ : api_Seen), (⟨(⟨#[]⟩ : ByteArray), 0⟩ : api_Peer)⟩ : roam_Gate)).bind fun t871 => bif t871 then (some false) else (if x848 = GoErr.nil then (bif ((x846 == (⟨#[120]⟩ : ByteArray)) && ((x847 == 3) && true)) then ((api_Code.m t854.2.2).bind fun t876 => (some (t876 == 2))) else (some false)) else (some false))) else (some false)) else (some false)) else (some false)))) fun (j851 : (List Int) → Int → Int → Int → ByteArray → Int → GoErr → Option Bool) => ((shutterref19_Seal.m K [107] (⟨0, 2, []⟩ : api_Frame)).bind fun t755 => ((roam_Gate_Come.m K (⟨x734, x739, (⟨x740, x741⟩ : api_Seen), (⟨x742, x743⟩ : api_Peer)⟩ : roam_Gate) (⟨#[121]⟩ : ByteArray) t755).bind fun t760 => (j851 t760.1.Key t760.1.Dir t760.1.Seen.Top t760.1.Seen.Bits t760.1.Peer.Addr t760.1.Peer.Seq t760.2.2))))) fun (j752 : (List Int) → Int → Int → Int → ByteArray → Int → (List Int) → GoErr → Option Bool) => ((shutterref19_Seal.m K [107] (⟨0, 3, [98]⟩ : api_Frame)).bind fun t28 => ((roam_Gate_Come.m K (⟨[107], 0, (⟨0, 0⟩ : api_Seen), (⟨(⟨#[]⟩ : ByteArray), 0⟩ : api_Peer)⟩ : roam_Gate) (⟨#[120]⟩ : ByteArray) t28).bind fun t33 => (j752 t33.1.Key t33.1.Dir t33.1.Seen.Top t33.1.Seen.Bits t33.1.Peer.Addr t33.1.Peer.Seq t33.2.1 t33.2.2))))

theorem shutterlaw21_awake.calls {B I : Gh} {h : Heap} {K : Nat} {r : Bool} (H : shutterlaw21_awake.m K = some r)  :
    Fc Tryd.prog 24 #[] [rG] B I h (fun v L => v = .bool r ∧ L = []) := by
 refine fc_of fun E hs => ?_
 unfold shutterlaw21_awake.m at H
 refine fn_of (args := []) (rs := [.tmp 0]) (N := 75) Tryd.func24 rfl rfl rfl rfl ?_
 refine st 6 [] (k_op (nS (e := 5) hs .i (tInt .u8) ([107] : List Int) [.int .u8 107] 1 (.int .u8 0) (Reps.int (I := (Cl.G .i E.B I)) (k := .u8) (l := [107])) ?_))
 intro b21 h hs
 refine k_op (cvO (e := 5) hs ?_)
 intro I h hs
 refine st 1 [] (k_op (nA hs [.slice none 0 0, .int .i64 0, .int .i64 0, .int .u64 0, .string (⟨#[]⟩ : ByteArray), .int .i64 0] (.agg #[.slice none 0 0, .int .i64 0, .int .i64 0, .int .u64 0, .string (⟨#[]⟩ : ByteArray), .int .i64 0]) ?_))
 intro b23 h hs
 refine k_op (sN hs 0 [.slice (some ⟨b21, 0, none⟩) 1 1, .int .i64 0, .int .i64 0, .int .u64 0, .string (⟨#[]⟩ : ByteArray), .int .i64 0] [.slice (some ⟨b21, 0, none⟩) 1 1, .int .i64 0, .int .i64 0, .int .u64 0, .string (⟨#[]⟩ : ByteArray), .int .i64 0] (ones_of rfl) ?_)
 intro h hs
 refine st 2 [] ?_
 obtain ⟨j752, e878, H⟩ := letJ_some H
 refine k_join (fun ρ h => ∃ (x734 : List Int) (x739 : Int) (x740 : Int) (x741 : Int) (x742 : ByteArray) (x743 : Int) (x744 : List Int) (x749 : GoErr) (b733 : Nat) (a735 : Option Addr) (p736 : Nat) (n737 : Nat) (a745 : Option Addr) (p746 : Nat) (n747 : Nat) (v750 : Value) (I : Gh), j752 x734 x739 x740 x741 x742 x743 x744 x749 = some r ∧ Fits [(1, .pointer (some ⟨b23, 0, none⟩)), (2, .pointer (some ⟨b733, 0, none⟩)), (3, .slice a745 n747 p746), (4, v750)] ρ ∧ St E [rR (tInt .u8) .i a735 p736 n737 x734, rB b733 [.slice a735 n737 p736, .int .i64 x739, .int .i64 x740, .int .u64 x741, .string x742, .int .i64 x743] 63, rO (tInt .u8) .i a745 p746 n747 x744, rE .i v750 x749, rR (tInt .u8) .i (some ⟨b21, 0, none⟩) 1 1 [107], rB b23 [.slice (some ⟨b21, 0, none⟩) 1 1, .int .i64 0, .int .i64 0, .int .u64 0, .string (⟨#[]⟩ : ByteArray), .int .i64 0] 63, rG] I h) ?_ ?_
 ·obtain ⟨hs0, bk0⟩ := hs.call tk0 (.c (qL d0) (.c (qK d1) .n))
  have hs := hs0
  refine k_regD hs0 15 ?_
  refine aG 0 rfl hs.keep (lls hs0 d0 0 6 rfl) (nmL hs0 d0) ?_
  refine aT3 1 3 12 ?_ ?_ ?_
  ·refine aA rfl (nS (e := 5) hs .i (tInt .u8) ([107] : List Int) [.int .u8 107] 1 (.int .u8 0) (Reps.int (I := (Cl.G .i E.B I)) (k := .u8) (l := [107])) ?_)
   intro b24 h hs
   refine ⟨hs.keep, ?_⟩
   refine aT3 2 3 12 ?_ ?_ ?_
   ·refine aA rfl (cvO (e := 5) hs ?_)
    intro I h hs
    refine ⟨hs.keep, ?_⟩
    refine aT2 3 12 ?_ ?_
    ·refine aA rfl (nS (e := 5) hs .i (tInt .u8) ([98] : List Int) [.int .u8 98] 1 (.int .u8 0) (Reps.int (I := (Cl.G .i E.B I)) (k := .u8) (l := [98])) ?_)
     intro b26 h hs
     refine ⟨hs.keep, ?_⟩
     refine aT2 4 12 ?_ ?_
     ·refine aA rfl (cvO (e := 5) hs ?_)
      intro I h hs
      refine ⟨hs.keep, ?_⟩
      refine aRun [5] 10 hs.keep ?_
      refine aT2 6 12 ?_ ?_
      ·obtain ⟨hk, bk⟩ := hs.call tk0 (.c (qI d1) (.c (qI d0) .n))
       refine aA rfl (o_call H (fun _ m => shutterref19_Seal.calls m hk) ?_)
       rintro t28 _ h H ⟨I, _, ⟨a29, p30, n31, rfl, rfl⟩, hk⟩
       replace hs := bk hk ct1 rfl
       obtain rfl := hs.nO d0
       refine ⟨hs.keep, ?_⟩
       refine aT2 7 12 ?_ ?_
       ·obtain ⟨hk, bk⟩ := hs.call tk0 (.c (qK d4) (.c (qO d0) .n))
        refine aA rfl (o_call H (fun _ m => roam_Gate_Come.calls m hk) ?_)
        rintro t33 _ h H ⟨I, _, ⟨a34, p35, n36, a38, p39, n40, v42, rfl, rfl⟩, hk⟩
        replace hs := bk hk ct3 rfl
        obtain rfl := hs.nR d0
        obtain rfl := hs.nO d1
        refine ⟨hs.keep, ?_⟩
        refine aRun [8, 9, 10, 11] 4 hs.keep ?_
        refine aO1 12 rfl (nA hs [.slice none 0 0, .int .i64 0, .int .i64 0, .int .u64 0, .string (⟨#[]⟩ : ByteArray), .int .i64 0] (.agg #[.slice none 0 0, .int .i64 0, .int .i64 0, .int .u64 0, .string (⟨#[]⟩ : ByteArray), .int .i64 0]) ?_)
        intro b44 h hs
        refine ⟨hs.keep, ?_⟩
        refine aO1 13 rfl (sN hs 0 [.slice a34 t33.1.Key.length p35, .int .i64 t33.1.Dir, .int .i64 t33.1.Seen.Top, .int .u64 t33.1.Seen.Bits, .string t33.1.Peer.Addr, .int .i64 t33.1.Peer.Seq] [.slice a34 t33.1.Key.length p35, .int .i64 t33.1.Dir, .int .i64 t33.1.Seen.Top, .int .u64 t33.1.Seen.Bits, .string t33.1.Peer.Addr, .int .i64 t33.1.Peer.Seq] (ones_of rfl) ?_)
        intro h hs
        refine ⟨hs.keep, ?_⟩
        refine aRun [14] 1 hs.keep ?_
        replace hs := hs.pk (.c d0 (.c d0 (.c d0 (.c d0 (.c d0 (.c d0 (.c d0 .n)))))))
        replace hs := bk0 hs (.s ct6) rfl
        refine aOL 15 rfl (owp_pure v42 (by kernel_rfl) ?_)
        refine aEnd ?_
        exact k_end ⟨t33.1.Key, t33.1.Dir, t33.1.Seen.Top, t33.1.Seen.Bits, t33.1.Peer.Addr, t33.1.Peer.Seq, t33.2.1, t33.2.2, b44, a34, p35, t33.1.Key.length, a38, p39, t33.2.1.length, v42, I, H, ⟨by kernel_rfl, by kernel_rfl, by kernel_rfl, by kernel_rfl, trivial⟩, hs.pk (.c d1 (.c d0 (.c d0 (.c d0 (.c d4 (.c d3 (.c d3 .n)))))))⟩
       ·refine aA rfl (nA hs [.slice none 0 0, .int .i64 0, .int .i64 0, .int .u64 0, .string (⟨#[]⟩ : ByteArray), .int .i64 0] (.agg #[.slice none 0 0, .int .i64 0, .int .i64 0, .int .u64 0, .string (⟨#[]⟩ : ByteArray), .int .i64 0]) ?_)
        intro b45 h hs
        refine ⟨hs.keep, ?_⟩
        obtain ⟨hk, bk⟩ := hs.call tk0 (.c (qK d5) (.c (qO d1) .n))
        refine aO1 7 rfl (o_call H (fun _ m => roam_Gate_Come.calls m hk) ?_)
        rintro t46 _ h H ⟨I, _, ⟨a47, p48, n49, a51, p52, n53, v55, rfl, rfl⟩, hk⟩
        replace hs := bk hk ct3 rfl
        obtain rfl := hs.nR d0
        obtain rfl := hs.nO d1
        refine ⟨hs.keep, ?_⟩
        refine aRun [8, 9, 10, 11] 3 hs.keep ?_
        refine aO1 13 rfl (sN (hs.f d3) 0 [.slice a47 t46.1.Key.length p48, .int .i64 t46.1.Dir, .int .i64 t46.1.Seen.Top, .int .u64 t46.1.Seen.Bits, .string t46.1.Peer.Addr, .int .i64 t46.1.Peer.Seq] [.slice a47 t46.1.Key.length p48, .int .i64 t46.1.Dir, .int .i64 t46.1.Seen.Top, .int .u64 t46.1.Seen.Bits, .string t46.1.Peer.Addr, .int .i64 t46.1.Peer.Seq] (ones_of rfl) ?_)
        intro h hs
        refine ⟨hs.keep, ?_⟩
        refine aRun [14] 1 hs.keep ?_
        replace hs := hs.pk (.c d0 (.c d0 (.c d0 (.c d0 (.c d0 (.c d0 (.c d0 .n)))))))
        replace hs := bk0 hs (.s ct6) rfl
        refine aOL 15 rfl (owp_pure v55 (by kernel_rfl) ?_)
        refine aEnd ?_
        exact k_end ⟨t46.1.Key, t46.1.Dir, t46.1.Seen.Top, t46.1.Seen.Bits, t46.1.Peer.Addr, t46.1.Peer.Seq, t46.2.1, t46.2.2, b45, a47, p48, t46.1.Key.length, a51, p52, t46.2.1.length, v55, I, H, ⟨by kernel_rfl, by kernel_rfl, by kernel_rfl, by kernel_rfl, trivial⟩, hs.pk (.c d1 (.c d0 (.c d0 (.c d0 (.c d4 (.c d3 (.c d3 .n)))))))⟩
      ·refine aA rfl (nA hs [.slice none 0 0, .int .i64 0, .int .i64 0, .int .u64 0, .string (⟨#[]⟩ : ByteArray), .int .i64 0] (.agg #[.slice none 0 0, .int .i64 0, .int .i64 0, .int .u64 0, .string (⟨#[]⟩ : ByteArray), .int .i64 0]) ?_)
       intro b57 h hs
       refine ⟨hs.keep, ?_⟩
       obtain ⟨hk, bk⟩ := hs.call tk0 (.c (qI d2) (.c (qI d1) .n))
       refine aO1 6 rfl (o_call H (fun _ m => shutterref19_Seal.calls m hk) ?_)
       rintro t58 _ h H ⟨I, _, ⟨a59, p60, n61, rfl, rfl⟩, hk⟩
       replace hs := bk hk ct1 rfl
       obtain rfl := hs.nO d0
       refine ⟨hs.keep, ?_⟩
       obtain ⟨hk, bk⟩ := hs.call tk0 (.c (qK d5) (.c (qO d0) .n))
       refine aO1 7 rfl (o_call H (fun _ m => roam_Gate_Come.calls m hk) ?_)
       rintro t63 _ h H ⟨I, _, ⟨a64, p65, n66, a68, p69, n70, v72, rfl, rfl⟩, hk⟩
       replace hs := bk hk ct3 rfl
       obtain rfl := hs.nR d0
       obtain rfl := hs.nO d1
       refine ⟨hs.keep, ?_⟩
       refine aRun [8, 9, 10, 11] 3 hs.keep ?_
       refine aO1 13 rfl (sN (hs.f d4) 0 [.slice a64 t63.1.Key.length p65, .int .i64 t63.1.Dir, .int .i64 t63.1.Seen.Top, .int .u64 t63.1.Seen.Bits, .string t63.1.Peer.Addr, .int .i64 t63.1.Peer.Seq] [.slice a64 t63.1.Key.length p65, .int .i64 t63.1.Dir, .int .i64 t63.1.Seen.Top, .int .u64 t63.1.Seen.Bits, .string t63.1.Peer.Addr, .int .i64 t63.1.Peer.Seq] (ones_of rfl) ?_)
       intro h hs
       refine ⟨hs.keep, ?_⟩
       refine aRun [14] 1 hs.keep ?_
       replace hs := hs.pk (.c d0 (.c d0 (.c d0 (.c d0 (.c d0 (.c d0 (.c d0 .n)))))))
       replace hs := bk0 hs (.s ct6) rfl
       refine aOL 15 rfl (owp_pure v72 (by kernel_rfl) ?_)
       refine aEnd ?_
       exact k_end ⟨t63.1.Key, t63.1.Dir, t63.1.Seen.Top, t63.1.Seen.Bits, t63.1.Peer.Addr, t63.1.Peer.Seq, t63.2.1, t63.2.2, b57, a64, p65, t63.1.Key.length, a68, p69, t63.2.1.length, v72, I, H, ⟨by kernel_rfl, by kernel_rfl, by kernel_rfl, by kernel_rfl, trivial⟩, hs.pk (.c d1 (.c d0 (.c d0 (.c d0 (.c d4 (.c d3 (.c d3 .n)))))))⟩
     ·refine aA rfl (nA hs [.slice none 0 0, .int .i64 0, .int .i64 0, .int .u64 0, .string (⟨#[]⟩ : ByteArray), .int .i64 0] (.agg #[.slice none 0 0, .int .i64 0, .int .i64 0, .int .u64 0, .string (⟨#[]⟩ : ByteArray), .int .i64 0]) ?_)
      intro b74 h hs
      refine ⟨hs.keep, ?_⟩
      replace hs := (hs.f d1)
      refine aO1 4 rfl (cvO (e := 5) hs ?_)
      intro I h hs
      refine ⟨hs.keep, ?_⟩
      refine aRun [5] 9 hs.keep ?_
      obtain ⟨hk, bk⟩ := hs.call tk0 (.c (qI d2) (.c (qI d0) .n))
      refine aO1 6 rfl (o_call H (fun _ m => shutterref19_Seal.calls m hk) ?_)
      rintro t75 _ h H ⟨I, _, ⟨a76, p77, n78, rfl, rfl⟩, hk⟩
      replace hs := bk hk ct1 rfl
      obtain rfl := hs.nO d0
      refine ⟨hs.keep, ?_⟩
      obtain ⟨hk, bk⟩ := hs.call tk0 (.c (qK d5) (.c (qO d0) .n))
      refine aO1 7 rfl (o_call H (fun _ m => roam_Gate_Come.calls m hk) ?_)
      rintro t80 _ h H ⟨I, _, ⟨a81, p82, n83, a85, p86, n87, v89, rfl, rfl⟩, hk⟩
      replace hs := bk hk ct3 rfl
      obtain rfl := hs.nR d0
      obtain rfl := hs.nO d1
      refine ⟨hs.keep, ?_⟩
      refine aRun [8, 9, 10, 11] 3 hs.keep ?_
      refine aO1 13 rfl (sN (hs.f d5) 0 [.slice a81 t80.1.Key.length p82, .int .i64 t80.1.Dir, .int .i64 t80.1.Seen.Top, .int .u64 t80.1.Seen.Bits, .string t80.1.Peer.Addr, .int .i64 t80.1.Peer.Seq] [.slice a81 t80.1.Key.length p82, .int .i64 t80.1.Dir, .int .i64 t80.1.Seen.Top, .int .u64 t80.1.Seen.Bits, .string t80.1.Peer.Addr, .int .i64 t80.1.Peer.Seq] (ones_of rfl) ?_)
      intro h hs
      refine ⟨hs.keep, ?_⟩
      refine aRun [14] 1 hs.keep ?_
      replace hs := hs.pk (.c d0 (.c d0 (.c d0 (.c d0 (.c d0 (.c d0 (.c d0 .n)))))))
      replace hs := bk0 hs (.s ct6) rfl
      refine aOL 15 rfl (owp_pure v89 (by kernel_rfl) ?_)
      refine aEnd ?_
      exact k_end ⟨t80.1.Key, t80.1.Dir, t80.1.Seen.Top, t80.1.Seen.Bits, t80.1.Peer.Addr, t80.1.Peer.Seq, t80.2.1, t80.2.2, b74, a81, p82, t80.1.Key.length, a85, p86, t80.2.1.length, v89, I, H, ⟨by kernel_rfl, by kernel_rfl, by kernel_rfl, by kernel_rfl, trivial⟩, hs.pk (.c d1 (.c d0 (.c d0 (.c d0 (.c d4 (.c d3 (.c d3 .n)))))))⟩
    ·refine aA rfl (nA hs [.slice none 0 0, .int .i64 0, .int .i64 0, .int .u64 0, .string (⟨#[]⟩ : ByteArray), .int .i64 0] (.agg #[.slice none 0 0, .int .i64 0, .int .i64 0, .int .u64 0, .string (⟨#[]⟩ : ByteArray), .int .i64 0]) ?_)
     intro b91 h hs
     refine ⟨hs.keep, ?_⟩
     refine aO1 3 rfl (nS (e := 5) hs .i (tInt .u8) ([98] : List Int) [.int .u8 98] 1 (.int .u8 0) (Reps.int (I := (Cl.G .i E.B I)) (k := .u8) (l := [98])) ?_)
     intro b92 h hs
     refine ⟨hs.keep, ?_⟩
     refine aO1 4 rfl (cvO (e := 5) hs ?_)
     intro I h hs
     refine ⟨hs.keep, ?_⟩
     refine aRun [5] 9 hs.keep ?_
     obtain ⟨hk, bk⟩ := hs.call tk0 (.c (qI d2) (.c (qI d0) .n))
     refine aO1 6 rfl (o_call H (fun _ m => shutterref19_Seal.calls m hk) ?_)
     rintro t94 _ h H ⟨I, _, ⟨a95, p96, n97, rfl, rfl⟩, hk⟩
     replace hs := bk hk ct1 rfl
     obtain rfl := hs.nO d0
     refine ⟨hs.keep, ?_⟩
     obtain ⟨hk, bk⟩ := hs.call tk0 (.c (qK d5) (.c (qO d0) .n))
     refine aO1 7 rfl (o_call H (fun _ m => roam_Gate_Come.calls m hk) ?_)
     rintro t99 _ h H ⟨I, _, ⟨a100, p101, n102, a104, p105, n106, v108, rfl, rfl⟩, hk⟩
     replace hs := bk hk ct3 rfl
     obtain rfl := hs.nR d0
     obtain rfl := hs.nO d1
     refine ⟨hs.keep, ?_⟩
     refine aRun [8, 9, 10, 11] 3 hs.keep ?_
     refine aO1 13 rfl (sN (hs.f d5) 0 [.slice a100 t99.1.Key.length p101, .int .i64 t99.1.Dir, .int .i64 t99.1.Seen.Top, .int .u64 t99.1.Seen.Bits, .string t99.1.Peer.Addr, .int .i64 t99.1.Peer.Seq] [.slice a100 t99.1.Key.length p101, .int .i64 t99.1.Dir, .int .i64 t99.1.Seen.Top, .int .u64 t99.1.Seen.Bits, .string t99.1.Peer.Addr, .int .i64 t99.1.Peer.Seq] (ones_of rfl) ?_)
     intro h hs
     refine ⟨hs.keep, ?_⟩
     refine aRun [14] 1 hs.keep ?_
     replace hs := hs.pk (.c d0 (.c d0 (.c d0 (.c d0 (.c d0 (.c d0 (.c d0 .n)))))))
     replace hs := bk0 hs (.s ct6) rfl
     refine aOL 15 rfl (owp_pure v108 (by kernel_rfl) ?_)
     refine aEnd ?_
     exact k_end ⟨t99.1.Key, t99.1.Dir, t99.1.Seen.Top, t99.1.Seen.Bits, t99.1.Peer.Addr, t99.1.Peer.Seq, t99.2.1, t99.2.2, b91, a100, p101, t99.1.Key.length, a104, p105, t99.2.1.length, v108, I, H, ⟨by kernel_rfl, by kernel_rfl, by kernel_rfl, by kernel_rfl, trivial⟩, hs.pk (.c d1 (.c d0 (.c d0 (.c d0 (.c d4 (.c d3 (.c d3 .n)))))))⟩
   ·refine aA rfl (nS (e := 5) hs .i (tInt .u8) ([98] : List Int) [.int .u8 98] 1 (.int .u8 0) (Reps.int (I := (Cl.G .i E.B I)) (k := .u8) (l := [98])) ?_)
    intro b110 h hs
    refine ⟨hs.keep, ?_⟩
    refine aT3 2 4 12 ?_ ?_ ?_
    ·replace hs := (hs.f d1)
     refine aA rfl (cvO (e := 5) hs ?_)
     intro I h hs
     refine ⟨hs.keep, ?_⟩
     refine aT2 4 12 ?_ ?_
     ·replace hs := (hs.f d1)
      refine aA rfl (cvO (e := 5) hs ?_)
      intro I h hs
      refine ⟨hs.keep, ?_⟩
      refine aRun [5] 10 hs.keep ?_
      refine aT2 6 12 ?_ ?_
      ·obtain ⟨hk, bk⟩ := hs.call tk0 (.c (qI d1) (.c (qI d0) .n))
       refine aA rfl (o_call H (fun _ m => shutterref19_Seal.calls m hk) ?_)
       rintro t112 _ h H ⟨I, _, ⟨a113, p114, n115, rfl, rfl⟩, hk⟩
       replace hs := bk hk ct1 rfl
       obtain rfl := hs.nO d0
       refine ⟨hs.keep, ?_⟩
       refine aT2 7 12 ?_ ?_
       ·obtain ⟨hk, bk⟩ := hs.call tk0 (.c (qK d4) (.c (qO d0) .n))
        refine aA rfl (o_call H (fun _ m => roam_Gate_Come.calls m hk) ?_)
        rintro t117 _ h H ⟨I, _, ⟨a118, p119, n120, a122, p123, n124, v126, rfl, rfl⟩, hk⟩
        replace hs := bk hk ct3 rfl
        obtain rfl := hs.nR d0
        obtain rfl := hs.nO d1
        refine ⟨hs.keep, ?_⟩
        refine aRun [8, 9, 10, 11] 4 hs.keep ?_
        refine aO1 12 rfl (nA hs [.slice none 0 0, .int .i64 0, .int .i64 0, .int .u64 0, .string (⟨#[]⟩ : ByteArray), .int .i64 0] (.agg #[.slice none 0 0, .int .i64 0, .int .i64 0, .int .u64 0, .string (⟨#[]⟩ : ByteArray), .int .i64 0]) ?_)
        intro b128 h hs
        refine ⟨hs.keep, ?_⟩
        refine aO1 13 rfl (sN hs 0 [.slice a118 t117.1.Key.length p119, .int .i64 t117.1.Dir, .int .i64 t117.1.Seen.Top, .int .u64 t117.1.Seen.Bits, .string t117.1.Peer.Addr, .int .i64 t117.1.Peer.Seq] [.slice a118 t117.1.Key.length p119, .int .i64 t117.1.Dir, .int .i64 t117.1.Seen.Top, .int .u64 t117.1.Seen.Bits, .string t117.1.Peer.Addr, .int .i64 t117.1.Peer.Seq] (ones_of rfl) ?_)
        intro h hs
        refine ⟨hs.keep, ?_⟩
        refine aRun [14] 1 hs.keep ?_
        replace hs := hs.pk (.c d0 (.c d0 (.c d0 (.c d0 (.c d0 (.c d0 (.c d0 .n)))))))
        replace hs := bk0 hs (.s ct6) rfl
        refine aOL 15 rfl (owp_pure v126 (by kernel_rfl) ?_)
        refine aEnd ?_
        exact k_end ⟨t117.1.Key, t117.1.Dir, t117.1.Seen.Top, t117.1.Seen.Bits, t117.1.Peer.Addr, t117.1.Peer.Seq, t117.2.1, t117.2.2, b128, a118, p119, t117.1.Key.length, a122, p123, t117.2.1.length, v126, I, H, ⟨by kernel_rfl, by kernel_rfl, by kernel_rfl, by kernel_rfl, trivial⟩, hs.pk (.c d1 (.c d0 (.c d0 (.c d0 (.c d4 (.c d3 (.c d3 .n)))))))⟩
       ·refine aA rfl (nA hs [.slice none 0 0, .int .i64 0, .int .i64 0, .int .u64 0, .string (⟨#[]⟩ : ByteArray), .int .i64 0] (.agg #[.slice none 0 0, .int .i64 0, .int .i64 0, .int .u64 0, .string (⟨#[]⟩ : ByteArray), .int .i64 0]) ?_)
        intro b129 h hs
        refine ⟨hs.keep, ?_⟩
        obtain ⟨hk, bk⟩ := hs.call tk0 (.c (qK d5) (.c (qO d1) .n))
        refine aO1 7 rfl (o_call H (fun _ m => roam_Gate_Come.calls m hk) ?_)
        rintro t130 _ h H ⟨I, _, ⟨a131, p132, n133, a135, p136, n137, v139, rfl, rfl⟩, hk⟩
        replace hs := bk hk ct3 rfl
        obtain rfl := hs.nR d0
        obtain rfl := hs.nO d1
        refine ⟨hs.keep, ?_⟩
        refine aRun [8, 9, 10, 11] 3 hs.keep ?_
        refine aO1 13 rfl (sN (hs.f d3) 0 [.slice a131 t130.1.Key.length p132, .int .i64 t130.1.Dir, .int .i64 t130.1.Seen.Top, .int .u64 t130.1.Seen.Bits, .string t130.1.Peer.Addr, .int .i64 t130.1.Peer.Seq] [.slice a131 t130.1.Key.length p132, .int .i64 t130.1.Dir, .int .i64 t130.1.Seen.Top, .int .u64 t130.1.Seen.Bits, .string t130.1.Peer.Addr, .int .i64 t130.1.Peer.Seq] (ones_of rfl) ?_)
        intro h hs
        refine ⟨hs.keep, ?_⟩
        refine aRun [14] 1 hs.keep ?_
        replace hs := hs.pk (.c d0 (.c d0 (.c d0 (.c d0 (.c d0 (.c d0 (.c d0 .n)))))))
        replace hs := bk0 hs (.s ct6) rfl
        refine aOL 15 rfl (owp_pure v139 (by kernel_rfl) ?_)
        refine aEnd ?_
        exact k_end ⟨t130.1.Key, t130.1.Dir, t130.1.Seen.Top, t130.1.Seen.Bits, t130.1.Peer.Addr, t130.1.Peer.Seq, t130.2.1, t130.2.2, b129, a131, p132, t130.1.Key.length, a135, p136, t130.2.1.length, v139, I, H, ⟨by kernel_rfl, by kernel_rfl, by kernel_rfl, by kernel_rfl, trivial⟩, hs.pk (.c d1 (.c d0 (.c d0 (.c d0 (.c d4 (.c d3 (.c d3 .n)))))))⟩
      ·refine aA rfl (nA hs [.slice none 0 0, .int .i64 0, .int .i64 0, .int .u64 0, .string (⟨#[]⟩ : ByteArray), .int .i64 0] (.agg #[.slice none 0 0, .int .i64 0, .int .i64 0, .int .u64 0, .string (⟨#[]⟩ : ByteArray), .int .i64 0]) ?_)
       intro b141 h hs
       refine ⟨hs.keep, ?_⟩
       obtain ⟨hk, bk⟩ := hs.call tk0 (.c (qI d2) (.c (qI d1) .n))
       refine aO1 6 rfl (o_call H (fun _ m => shutterref19_Seal.calls m hk) ?_)
       rintro t142 _ h H ⟨I, _, ⟨a143, p144, n145, rfl, rfl⟩, hk⟩
       replace hs := bk hk ct1 rfl
       obtain rfl := hs.nO d0
       refine ⟨hs.keep, ?_⟩
       obtain ⟨hk, bk⟩ := hs.call tk0 (.c (qK d5) (.c (qO d0) .n))
       refine aO1 7 rfl (o_call H (fun _ m => roam_Gate_Come.calls m hk) ?_)
       rintro t147 _ h H ⟨I, _, ⟨a148, p149, n150, a152, p153, n154, v156, rfl, rfl⟩, hk⟩
       replace hs := bk hk ct3 rfl
       obtain rfl := hs.nR d0
       obtain rfl := hs.nO d1
       refine ⟨hs.keep, ?_⟩
       refine aRun [8, 9, 10, 11] 3 hs.keep ?_
       refine aO1 13 rfl (sN (hs.f d4) 0 [.slice a148 t147.1.Key.length p149, .int .i64 t147.1.Dir, .int .i64 t147.1.Seen.Top, .int .u64 t147.1.Seen.Bits, .string t147.1.Peer.Addr, .int .i64 t147.1.Peer.Seq] [.slice a148 t147.1.Key.length p149, .int .i64 t147.1.Dir, .int .i64 t147.1.Seen.Top, .int .u64 t147.1.Seen.Bits, .string t147.1.Peer.Addr, .int .i64 t147.1.Peer.Seq] (ones_of rfl) ?_)
       intro h hs
       refine ⟨hs.keep, ?_⟩
       refine aRun [14] 1 hs.keep ?_
       replace hs := hs.pk (.c d0 (.c d0 (.c d0 (.c d0 (.c d0 (.c d0 (.c d0 .n)))))))
       replace hs := bk0 hs (.s ct6) rfl
       refine aOL 15 rfl (owp_pure v156 (by kernel_rfl) ?_)
       refine aEnd ?_
       exact k_end ⟨t147.1.Key, t147.1.Dir, t147.1.Seen.Top, t147.1.Seen.Bits, t147.1.Peer.Addr, t147.1.Peer.Seq, t147.2.1, t147.2.2, b141, a148, p149, t147.1.Key.length, a152, p153, t147.2.1.length, v156, I, H, ⟨by kernel_rfl, by kernel_rfl, by kernel_rfl, by kernel_rfl, trivial⟩, hs.pk (.c d1 (.c d0 (.c d0 (.c d0 (.c d4 (.c d3 (.c d3 .n)))))))⟩
     ·refine aA rfl (nA hs [.slice none 0 0, .int .i64 0, .int .i64 0, .int .u64 0, .string (⟨#[]⟩ : ByteArray), .int .i64 0] (.agg #[.slice none 0 0, .int .i64 0, .int .i64 0, .int .u64 0, .string (⟨#[]⟩ : ByteArray), .int .i64 0]) ?_)
      intro b158 h hs
      refine ⟨hs.keep, ?_⟩
      replace hs := (hs.f d2)
      refine aO1 4 rfl (cvO (e := 5) hs ?_)
      intro I h hs
      refine ⟨hs.keep, ?_⟩
      refine aRun [5] 9 hs.keep ?_
      obtain ⟨hk, bk⟩ := hs.call tk0 (.c (qI d2) (.c (qI d0) .n))
      refine aO1 6 rfl (o_call H (fun _ m => shutterref19_Seal.calls m hk) ?_)
      rintro t159 _ h H ⟨I, _, ⟨a160, p161, n162, rfl, rfl⟩, hk⟩
      replace hs := bk hk ct1 rfl
      obtain rfl := hs.nO d0
      refine ⟨hs.keep, ?_⟩
      obtain ⟨hk, bk⟩ := hs.call tk0 (.c (qK d5) (.c (qO d0) .n))
      refine aO1 7 rfl (o_call H (fun _ m => roam_Gate_Come.calls m hk) ?_)
      rintro t164 _ h H ⟨I, _, ⟨a165, p166, n167, a169, p170, n171, v173, rfl, rfl⟩, hk⟩
      replace hs := bk hk ct3 rfl
      obtain rfl := hs.nR d0
      obtain rfl := hs.nO d1
      refine ⟨hs.keep, ?_⟩
      refine aRun [8, 9, 10, 11] 3 hs.keep ?_
      refine aO1 13 rfl (sN (hs.f d5) 0 [.slice a165 t164.1.Key.length p166, .int .i64 t164.1.Dir, .int .i64 t164.1.Seen.Top, .int .u64 t164.1.Seen.Bits, .string t164.1.Peer.Addr, .int .i64 t164.1.Peer.Seq] [.slice a165 t164.1.Key.length p166, .int .i64 t164.1.Dir, .int .i64 t164.1.Seen.Top, .int .u64 t164.1.Seen.Bits, .string t164.1.Peer.Addr, .int .i64 t164.1.Peer.Seq] (ones_of rfl) ?_)
      intro h hs
      refine ⟨hs.keep, ?_⟩
      refine aRun [14] 1 hs.keep ?_
      replace hs := hs.pk (.c d0 (.c d0 (.c d0 (.c d0 (.c d0 (.c d0 (.c d0 .n)))))))
      replace hs := bk0 hs (.s ct6) rfl
      refine aOL 15 rfl (owp_pure v173 (by kernel_rfl) ?_)
      refine aEnd ?_
      exact k_end ⟨t164.1.Key, t164.1.Dir, t164.1.Seen.Top, t164.1.Seen.Bits, t164.1.Peer.Addr, t164.1.Peer.Seq, t164.2.1, t164.2.2, b158, a165, p166, t164.1.Key.length, a169, p170, t164.2.1.length, v173, I, H, ⟨by kernel_rfl, by kernel_rfl, by kernel_rfl, by kernel_rfl, trivial⟩, hs.pk (.c d1 (.c d0 (.c d0 (.c d0 (.c d4 (.c d3 (.c d3 .n)))))))⟩
    ·refine aA rfl (cvO (e := 5) hs ?_)
     intro I h hs
     refine ⟨hs.keep, ?_⟩
     refine aRun [5] 11 hs.keep ?_
     refine aT2 2 12 ?_ ?_
     ·replace hs := (hs.f d1)
      refine aA rfl (cvO (e := 5) hs ?_)
      intro I h hs
      refine ⟨hs.keep, ?_⟩
      refine aT2 6 12 ?_ ?_
      ·obtain ⟨hk, bk⟩ := hs.call tk0 (.c (qI d0) (.c (qI d1) .n))
       refine aA rfl (o_call H (fun _ m => shutterref19_Seal.calls m hk) ?_)
       rintro t175 _ h H ⟨I, _, ⟨a176, p177, n178, rfl, rfl⟩, hk⟩
       replace hs := bk hk ct1 rfl
       obtain rfl := hs.nO d0
       refine ⟨hs.keep, ?_⟩
       refine aT2 7 12 ?_ ?_
       ·obtain ⟨hk, bk⟩ := hs.call tk0 (.c (qK d4) (.c (qO d0) .n))
        refine aA rfl (o_call H (fun _ m => roam_Gate_Come.calls m hk) ?_)
        rintro t180 _ h H ⟨I, _, ⟨a181, p182, n183, a185, p186, n187, v189, rfl, rfl⟩, hk⟩
        replace hs := bk hk ct3 rfl
        obtain rfl := hs.nR d0
        obtain rfl := hs.nO d1
        refine ⟨hs.keep, ?_⟩
        refine aRun [8, 9, 10, 11] 4 hs.keep ?_
        refine aO1 12 rfl (nA hs [.slice none 0 0, .int .i64 0, .int .i64 0, .int .u64 0, .string (⟨#[]⟩ : ByteArray), .int .i64 0] (.agg #[.slice none 0 0, .int .i64 0, .int .i64 0, .int .u64 0, .string (⟨#[]⟩ : ByteArray), .int .i64 0]) ?_)
        intro b191 h hs
        refine ⟨hs.keep, ?_⟩
        refine aO1 13 rfl (sN hs 0 [.slice a181 t180.1.Key.length p182, .int .i64 t180.1.Dir, .int .i64 t180.1.Seen.Top, .int .u64 t180.1.Seen.Bits, .string t180.1.Peer.Addr, .int .i64 t180.1.Peer.Seq] [.slice a181 t180.1.Key.length p182, .int .i64 t180.1.Dir, .int .i64 t180.1.Seen.Top, .int .u64 t180.1.Seen.Bits, .string t180.1.Peer.Addr, .int .i64 t180.1.Peer.Seq] (ones_of rfl) ?_)
        intro h hs
        refine ⟨hs.keep, ?_⟩
        refine aRun [14] 1 hs.keep ?_
        replace hs := hs.pk (.c d0 (.c d0 (.c d0 (.c d0 (.c d0 (.c d0 (.c d0 .n)))))))
        replace hs := bk0 hs (.s ct6) rfl
        refine aOL 15 rfl (owp_pure v189 (by kernel_rfl) ?_)
        refine aEnd ?_
        exact k_end ⟨t180.1.Key, t180.1.Dir, t180.1.Seen.Top, t180.1.Seen.Bits, t180.1.Peer.Addr, t180.1.Peer.Seq, t180.2.1, t180.2.2, b191, a181, p182, t180.1.Key.length, a185, p186, t180.2.1.length, v189, I, H, ⟨by kernel_rfl, by kernel_rfl, by kernel_rfl, by kernel_rfl, trivial⟩, hs.pk (.c d1 (.c d0 (.c d0 (.c d0 (.c d4 (.c d3 (.c d3 .n)))))))⟩
       ·refine aA rfl (nA hs [.slice none 0 0, .int .i64 0, .int .i64 0, .int .u64 0, .string (⟨#[]⟩ : ByteArray), .int .i64 0] (.agg #[.slice none 0 0, .int .i64 0, .int .i64 0, .int .u64 0, .string (⟨#[]⟩ : ByteArray), .int .i64 0]) ?_)
        intro b192 h hs
        refine ⟨hs.keep, ?_⟩
        obtain ⟨hk, bk⟩ := hs.call tk0 (.c (qK d5) (.c (qO d1) .n))
        refine aO1 7 rfl (o_call H (fun _ m => roam_Gate_Come.calls m hk) ?_)
        rintro t193 _ h H ⟨I, _, ⟨a194, p195, n196, a198, p199, n200, v202, rfl, rfl⟩, hk⟩
        replace hs := bk hk ct3 rfl
        obtain rfl := hs.nR d0
        obtain rfl := hs.nO d1
        refine ⟨hs.keep, ?_⟩
        refine aRun [8, 9, 10, 11] 3 hs.keep ?_
        refine aO1 13 rfl (sN (hs.f d3) 0 [.slice a194 t193.1.Key.length p195, .int .i64 t193.1.Dir, .int .i64 t193.1.Seen.Top, .int .u64 t193.1.Seen.Bits, .string t193.1.Peer.Addr, .int .i64 t193.1.Peer.Seq] [.slice a194 t193.1.Key.length p195, .int .i64 t193.1.Dir, .int .i64 t193.1.Seen.Top, .int .u64 t193.1.Seen.Bits, .string t193.1.Peer.Addr, .int .i64 t193.1.Peer.Seq] (ones_of rfl) ?_)
        intro h hs
        refine ⟨hs.keep, ?_⟩
        refine aRun [14] 1 hs.keep ?_
        replace hs := hs.pk (.c d0 (.c d0 (.c d0 (.c d0 (.c d0 (.c d0 (.c d0 .n)))))))
        replace hs := bk0 hs (.s ct6) rfl
        refine aOL 15 rfl (owp_pure v202 (by kernel_rfl) ?_)
        refine aEnd ?_
        exact k_end ⟨t193.1.Key, t193.1.Dir, t193.1.Seen.Top, t193.1.Seen.Bits, t193.1.Peer.Addr, t193.1.Peer.Seq, t193.2.1, t193.2.2, b192, a194, p195, t193.1.Key.length, a198, p199, t193.2.1.length, v202, I, H, ⟨by kernel_rfl, by kernel_rfl, by kernel_rfl, by kernel_rfl, trivial⟩, hs.pk (.c d1 (.c d0 (.c d0 (.c d0 (.c d4 (.c d3 (.c d3 .n)))))))⟩
      ·refine aA rfl (nA hs [.slice none 0 0, .int .i64 0, .int .i64 0, .int .u64 0, .string (⟨#[]⟩ : ByteArray), .int .i64 0] (.agg #[.slice none 0 0, .int .i64 0, .int .i64 0, .int .u64 0, .string (⟨#[]⟩ : ByteArray), .int .i64 0]) ?_)
       intro b204 h hs
       refine ⟨hs.keep, ?_⟩
       obtain ⟨hk, bk⟩ := hs.call tk0 (.c (qI d1) (.c (qI d2) .n))
       refine aO1 6 rfl (o_call H (fun _ m => shutterref19_Seal.calls m hk) ?_)
       rintro t205 _ h H ⟨I, _, ⟨a206, p207, n208, rfl, rfl⟩, hk⟩
       replace hs := bk hk ct1 rfl
       obtain rfl := hs.nO d0
       refine ⟨hs.keep, ?_⟩
       obtain ⟨hk, bk⟩ := hs.call tk0 (.c (qK d5) (.c (qO d0) .n))
       refine aO1 7 rfl (o_call H (fun _ m => roam_Gate_Come.calls m hk) ?_)
       rintro t210 _ h H ⟨I, _, ⟨a211, p212, n213, a215, p216, n217, v219, rfl, rfl⟩, hk⟩
       replace hs := bk hk ct3 rfl
       obtain rfl := hs.nR d0
       obtain rfl := hs.nO d1
       refine ⟨hs.keep, ?_⟩
       refine aRun [8, 9, 10, 11] 3 hs.keep ?_
       refine aO1 13 rfl (sN (hs.f d4) 0 [.slice a211 t210.1.Key.length p212, .int .i64 t210.1.Dir, .int .i64 t210.1.Seen.Top, .int .u64 t210.1.Seen.Bits, .string t210.1.Peer.Addr, .int .i64 t210.1.Peer.Seq] [.slice a211 t210.1.Key.length p212, .int .i64 t210.1.Dir, .int .i64 t210.1.Seen.Top, .int .u64 t210.1.Seen.Bits, .string t210.1.Peer.Addr, .int .i64 t210.1.Peer.Seq] (ones_of rfl) ?_)
       intro h hs
       refine ⟨hs.keep, ?_⟩
       refine aRun [14] 1 hs.keep ?_
       replace hs := hs.pk (.c d0 (.c d0 (.c d0 (.c d0 (.c d0 (.c d0 (.c d0 .n)))))))
       replace hs := bk0 hs (.s ct6) rfl
       refine aOL 15 rfl (owp_pure v219 (by kernel_rfl) ?_)
       refine aEnd ?_
       exact k_end ⟨t210.1.Key, t210.1.Dir, t210.1.Seen.Top, t210.1.Seen.Bits, t210.1.Peer.Addr, t210.1.Peer.Seq, t210.2.1, t210.2.2, b204, a211, p212, t210.1.Key.length, a215, p216, t210.2.1.length, v219, I, H, ⟨by kernel_rfl, by kernel_rfl, by kernel_rfl, by kernel_rfl, trivial⟩, hs.pk (.c d1 (.c d0 (.c d0 (.c d0 (.c d4 (.c d3 (.c d3 .n)))))))⟩
     ·refine aA rfl (nA hs [.slice none 0 0, .int .i64 0, .int .i64 0, .int .u64 0, .string (⟨#[]⟩ : ByteArray), .int .i64 0] (.agg #[.slice none 0 0, .int .i64 0, .int .i64 0, .int .u64 0, .string (⟨#[]⟩ : ByteArray), .int .i64 0]) ?_)
      intro b221 h hs
      refine ⟨hs.keep, ?_⟩
      replace hs := (hs.f d2)
      refine aO1 2 rfl (cvO (e := 5) hs ?_)
      intro I h hs
      refine ⟨hs.keep, ?_⟩
      obtain ⟨hk, bk⟩ := hs.call tk0 (.c (qI d0) (.c (qI d2) .n))
      refine aO1 6 rfl (o_call H (fun _ m => shutterref19_Seal.calls m hk) ?_)
      rintro t222 _ h H ⟨I, _, ⟨a223, p224, n225, rfl, rfl⟩, hk⟩
      replace hs := bk hk ct1 rfl
      obtain rfl := hs.nO d0
      refine ⟨hs.keep, ?_⟩
      obtain ⟨hk, bk⟩ := hs.call tk0 (.c (qK d5) (.c (qO d0) .n))
      refine aO1 7 rfl (o_call H (fun _ m => roam_Gate_Come.calls m hk) ?_)
      rintro t227 _ h H ⟨I, _, ⟨a228, p229, n230, a232, p233, n234, v236, rfl, rfl⟩, hk⟩
      replace hs := bk hk ct3 rfl
      obtain rfl := hs.nR d0
      obtain rfl := hs.nO d1
      refine ⟨hs.keep, ?_⟩
      refine aRun [8, 9, 10, 11] 3 hs.keep ?_
      refine aO1 13 rfl (sN (hs.f d5) 0 [.slice a228 t227.1.Key.length p229, .int .i64 t227.1.Dir, .int .i64 t227.1.Seen.Top, .int .u64 t227.1.Seen.Bits, .string t227.1.Peer.Addr, .int .i64 t227.1.Peer.Seq] [.slice a228 t227.1.Key.length p229, .int .i64 t227.1.Dir, .int .i64 t227.1.Seen.Top, .int .u64 t227.1.Seen.Bits, .string t227.1.Peer.Addr, .int .i64 t227.1.Peer.Seq] (ones_of rfl) ?_)
      intro h hs
      refine ⟨hs.keep, ?_⟩
      refine aRun [14] 1 hs.keep ?_
      replace hs := hs.pk (.c d0 (.c d0 (.c d0 (.c d0 (.c d0 (.c d0 (.c d0 .n)))))))
      replace hs := bk0 hs (.s ct6) rfl
      refine aOL 15 rfl (owp_pure v236 (by kernel_rfl) ?_)
      refine aEnd ?_
      exact k_end ⟨t227.1.Key, t227.1.Dir, t227.1.Seen.Top, t227.1.Seen.Bits, t227.1.Peer.Addr, t227.1.Peer.Seq, t227.2.1, t227.2.2, b221, a228, p229, t227.1.Key.length, a232, p233, t227.2.1.length, v236, I, H, ⟨by kernel_rfl, by kernel_rfl, by kernel_rfl, by kernel_rfl, trivial⟩, hs.pk (.c d1 (.c d0 (.c d0 (.c d0 (.c d4 (.c d3 (.c d3 .n)))))))⟩
    ·refine aA rfl (nA hs [.slice none 0 0, .int .i64 0, .int .i64 0, .int .u64 0, .string (⟨#[]⟩ : ByteArray), .int .i64 0] (.agg #[.slice none 0 0, .int .i64 0, .int .i64 0, .int .u64 0, .string (⟨#[]⟩ : ByteArray), .int .i64 0]) ?_)
     intro b238 h hs
     refine ⟨hs.keep, ?_⟩
     refine aT2 2 4 ?_ ?_
     ·replace hs := (hs.f d2)
      refine aA rfl (cvO (e := 5) hs ?_)
      intro I h hs
      refine ⟨hs.keep, ?_⟩
      replace hs := (hs.f d2)
      refine aO1 4 rfl (cvO (e := 5) hs ?_)
      intro I h hs
      refine ⟨hs.keep, ?_⟩
      refine aRun [5] 9 hs.keep ?_
      obtain ⟨hk, bk⟩ := hs.call tk0 (.c (qI d1) (.c (qI d0) .n))
      refine aO1 6 rfl (o_call H (fun _ m => shutterref19_Seal.calls m hk) ?_)
      rintro t239 _ h H ⟨I, _, ⟨a240, p241, n242, rfl, rfl⟩, hk⟩
      replace hs := bk hk ct1 rfl
      obtain rfl := hs.nO d0
      refine ⟨hs.keep, ?_⟩
      obtain ⟨hk, bk⟩ := hs.call tk0 (.c (qK d5) (.c (qO d0) .n))
      refine aO1 7 rfl (o_call H (fun _ m => roam_Gate_Come.calls m hk) ?_)
      rintro t244 _ h H ⟨I, _, ⟨a245, p246, n247, a249, p250, n251, v253, rfl, rfl⟩, hk⟩
      replace hs := bk hk ct3 rfl
      obtain rfl := hs.nR d0
      obtain rfl := hs.nO d1
      refine ⟨hs.keep, ?_⟩
      refine aRun [8, 9, 10, 11] 3 hs.keep ?_
      refine aO1 13 rfl (sN (hs.f d6) 0 [.slice a245 t244.1.Key.length p246, .int .i64 t244.1.Dir, .int .i64 t244.1.Seen.Top, .int .u64 t244.1.Seen.Bits, .string t244.1.Peer.Addr, .int .i64 t244.1.Peer.Seq] [.slice a245 t244.1.Key.length p246, .int .i64 t244.1.Dir, .int .i64 t244.1.Seen.Top, .int .u64 t244.1.Seen.Bits, .string t244.1.Peer.Addr, .int .i64 t244.1.Peer.Seq] (ones_of rfl) ?_)
      intro h hs
      refine ⟨hs.keep, ?_⟩
      refine aRun [14] 1 hs.keep ?_
      replace hs := hs.pk (.c d0 (.c d0 (.c d0 (.c d0 (.c d0 (.c d0 (.c d0 .n)))))))
      replace hs := bk0 hs (.s ct6) rfl
      refine aOL 15 rfl (owp_pure v253 (by kernel_rfl) ?_)
      refine aEnd ?_
      exact k_end ⟨t244.1.Key, t244.1.Dir, t244.1.Seen.Top, t244.1.Seen.Bits, t244.1.Peer.Addr, t244.1.Peer.Seq, t244.2.1, t244.2.2, b238, a245, p246, t244.1.Key.length, a249, p250, t244.2.1.length, v253, I, H, ⟨by kernel_rfl, by kernel_rfl, by kernel_rfl, by kernel_rfl, trivial⟩, hs.pk (.c d1 (.c d0 (.c d0 (.c d0 (.c d4 (.c d3 (.c d3 .n)))))))⟩
     ·replace hs := (hs.f d1)
      refine aA rfl (cvO (e := 5) hs ?_)
      intro I h hs
      refine ⟨hs.keep, ?_⟩
      replace hs := (hs.f d2)
      refine aRun [5] 10 hs.keep ?_
      refine aO1 2 rfl (cvO (e := 5) hs ?_)
      intro I h hs
      refine ⟨hs.keep, ?_⟩
      obtain ⟨hk, bk⟩ := hs.call tk0 (.c (qI d0) (.c (qI d1) .n))
      refine aO1 6 rfl (o_call H (fun _ m => shutterref19_Seal.calls m hk) ?_)
      rintro t255 _ h H ⟨I, _, ⟨a256, p257, n258, rfl, rfl⟩, hk⟩
      replace hs := bk hk ct1 rfl
      obtain rfl := hs.nO d0
      refine ⟨hs.keep, ?_⟩
      obtain ⟨hk, bk⟩ := hs.call tk0 (.c (qK d5) (.c (qO d0) .n))
      refine aO1 7 rfl (o_call H (fun _ m => roam_Gate_Come.calls m hk) ?_)
      rintro t260 _ h H ⟨I, _, ⟨a261, p262, n263, a265, p266, n267, v269, rfl, rfl⟩, hk⟩
      replace hs := bk hk ct3 rfl
      obtain rfl := hs.nR d0
      obtain rfl := hs.nO d1
      refine ⟨hs.keep, ?_⟩
      refine aRun [8, 9, 10, 11] 3 hs.keep ?_
      refine aO1 13 rfl (sN (hs.f d6) 0 [.slice a261 t260.1.Key.length p262, .int .i64 t260.1.Dir, .int .i64 t260.1.Seen.Top, .int .u64 t260.1.Seen.Bits, .string t260.1.Peer.Addr, .int .i64 t260.1.Peer.Seq] [.slice a261 t260.1.Key.length p262, .int .i64 t260.1.Dir, .int .i64 t260.1.Seen.Top, .int .u64 t260.1.Seen.Bits, .string t260.1.Peer.Addr, .int .i64 t260.1.Peer.Seq] (ones_of rfl) ?_)
      intro h hs
      refine ⟨hs.keep, ?_⟩
      refine aRun [14] 1 hs.keep ?_
      replace hs := hs.pk (.c d0 (.c d0 (.c d0 (.c d0 (.c d0 (.c d0 (.c d0 .n)))))))
      replace hs := bk0 hs (.s ct6) rfl
      refine aOL 15 rfl (owp_pure v269 (by kernel_rfl) ?_)
      refine aEnd ?_
      exact k_end ⟨t260.1.Key, t260.1.Dir, t260.1.Seen.Top, t260.1.Seen.Bits, t260.1.Peer.Addr, t260.1.Peer.Seq, t260.2.1, t260.2.2, b238, a261, p262, t260.1.Key.length, a265, p266, t260.2.1.length, v269, I, H, ⟨by kernel_rfl, by kernel_rfl, by kernel_rfl, by kernel_rfl, trivial⟩, hs.pk (.c d1 (.c d0 (.c d0 (.c d0 (.c d4 (.c d3 (.c d3 .n)))))))⟩
   ·refine aA rfl (nA hs [.slice none 0 0, .int .i64 0, .int .i64 0, .int .u64 0, .string (⟨#[]⟩ : ByteArray), .int .i64 0] (.agg #[.slice none 0 0, .int .i64 0, .int .i64 0, .int .u64 0, .string (⟨#[]⟩ : ByteArray), .int .i64 0]) ?_)
    intro b271 h hs
    refine ⟨hs.keep, ?_⟩
    refine aT2 2 3 ?_ ?_
    ·replace hs := (hs.f d1)
     refine aA rfl (cvO (e := 5) hs ?_)
     intro I h hs
     refine ⟨hs.keep, ?_⟩
     refine aO1 3 rfl (nS (e := 5) hs .i (tInt .u8) ([98] : List Int) [.int .u8 98] 1 (.int .u8 0) (Reps.int (I := (Cl.G .i E.B I)) (k := .u8) (l := [98])) ?_)
     intro b272 h hs
     refine ⟨hs.keep, ?_⟩
     refine aO1 4 rfl (cvO (e := 5) hs ?_)
     intro I h hs
     refine ⟨hs.keep, ?_⟩
     refine aRun [5] 9 hs.keep ?_
     obtain ⟨hk, bk⟩ := hs.call tk0 (.c (qI d1) (.c (qI d0) .n))
     refine aO1 6 rfl (o_call H (fun _ m => shutterref19_Seal.calls m hk) ?_)
     rintro t274 _ h H ⟨I, _, ⟨a275, p276, n277, rfl, rfl⟩, hk⟩
     replace hs := bk hk ct1 rfl
     obtain rfl := hs.nO d0
     refine ⟨hs.keep, ?_⟩
     obtain ⟨hk, bk⟩ := hs.call tk0 (.c (qK d5) (.c (qO d0) .n))
     refine aO1 7 rfl (o_call H (fun _ m => roam_Gate_Come.calls m hk) ?_)
     rintro t279 _ h H ⟨I, _, ⟨a280, p281, n282, a284, p285, n286, v288, rfl, rfl⟩, hk⟩
     replace hs := bk hk ct3 rfl
     obtain rfl := hs.nR d0
     obtain rfl := hs.nO d1
     refine ⟨hs.keep, ?_⟩
     refine aRun [8, 9, 10, 11] 3 hs.keep ?_
     refine aO1 13 rfl (sN (hs.f d6) 0 [.slice a280 t279.1.Key.length p281, .int .i64 t279.1.Dir, .int .i64 t279.1.Seen.Top, .int .u64 t279.1.Seen.Bits, .string t279.1.Peer.Addr, .int .i64 t279.1.Peer.Seq] [.slice a280 t279.1.Key.length p281, .int .i64 t279.1.Dir, .int .i64 t279.1.Seen.Top, .int .u64 t279.1.Seen.Bits, .string t279.1.Peer.Addr, .int .i64 t279.1.Peer.Seq] (ones_of rfl) ?_)
     intro h hs
     refine ⟨hs.keep, ?_⟩
     refine aRun [14] 1 hs.keep ?_
     replace hs := hs.pk (.c d0 (.c d0 (.c d0 (.c d0 (.c d0 (.c d0 (.c d0 .n)))))))
     replace hs := bk0 hs (.s ct6) rfl
     refine aOL 15 rfl (owp_pure v288 (by kernel_rfl) ?_)
     refine aEnd ?_
     exact k_end ⟨t279.1.Key, t279.1.Dir, t279.1.Seen.Top, t279.1.Seen.Bits, t279.1.Peer.Addr, t279.1.Peer.Seq, t279.2.1, t279.2.2, b271, a280, p281, t279.1.Key.length, a284, p285, t279.2.1.length, v288, I, H, ⟨by kernel_rfl, by kernel_rfl, by kernel_rfl, by kernel_rfl, trivial⟩, hs.pk (.c d1 (.c d0 (.c d0 (.c d0 (.c d4 (.c d3 (.c d3 .n)))))))⟩
    ·refine aA rfl (nS (e := 5) hs .i (tInt .u8) ([98] : List Int) [.int .u8 98] 1 (.int .u8 0) (Reps.int (I := (Cl.G .i E.B I)) (k := .u8) (l := [98])) ?_)
     intro b290 h hs
     refine ⟨hs.keep, ?_⟩
     refine aT2 2 4 ?_ ?_
     ·replace hs := (hs.f d2)
      refine aA rfl (cvO (e := 5) hs ?_)
      intro I h hs
      refine ⟨hs.keep, ?_⟩
      replace hs := (hs.f d1)
      refine aO1 4 rfl (cvO (e := 5) hs ?_)
      intro I h hs
      refine ⟨hs.keep, ?_⟩
      refine aRun [5] 9 hs.keep ?_
      obtain ⟨hk, bk⟩ := hs.call tk0 (.c (qI d1) (.c (qI d0) .n))
      refine aO1 6 rfl (o_call H (fun _ m => shutterref19_Seal.calls m hk) ?_)
      rintro t292 _ h H ⟨I, _, ⟨a293, p294, n295, rfl, rfl⟩, hk⟩
      replace hs := bk hk ct1 rfl
      obtain rfl := hs.nO d0
      refine ⟨hs.keep, ?_⟩
      obtain ⟨hk, bk⟩ := hs.call tk0 (.c (qK d5) (.c (qO d0) .n))
      refine aO1 7 rfl (o_call H (fun _ m => roam_Gate_Come.calls m hk) ?_)
      rintro t297 _ h H ⟨I, _, ⟨a298, p299, n300, a302, p303, n304, v306, rfl, rfl⟩, hk⟩
      replace hs := bk hk ct3 rfl
      obtain rfl := hs.nR d0
      obtain rfl := hs.nO d1
      refine ⟨hs.keep, ?_⟩
      refine aRun [8, 9, 10, 11] 3 hs.keep ?_
      refine aO1 13 rfl (sN (hs.f d6) 0 [.slice a298 t297.1.Key.length p299, .int .i64 t297.1.Dir, .int .i64 t297.1.Seen.Top, .int .u64 t297.1.Seen.Bits, .string t297.1.Peer.Addr, .int .i64 t297.1.Peer.Seq] [.slice a298 t297.1.Key.length p299, .int .i64 t297.1.Dir, .int .i64 t297.1.Seen.Top, .int .u64 t297.1.Seen.Bits, .string t297.1.Peer.Addr, .int .i64 t297.1.Peer.Seq] (ones_of rfl) ?_)
      intro h hs
      refine ⟨hs.keep, ?_⟩
      refine aRun [14] 1 hs.keep ?_
      replace hs := hs.pk (.c d0 (.c d0 (.c d0 (.c d0 (.c d0 (.c d0 (.c d0 .n)))))))
      replace hs := bk0 hs (.s ct6) rfl
      refine aOL 15 rfl (owp_pure v306 (by kernel_rfl) ?_)
      refine aEnd ?_
      exact k_end ⟨t297.1.Key, t297.1.Dir, t297.1.Seen.Top, t297.1.Seen.Bits, t297.1.Peer.Addr, t297.1.Peer.Seq, t297.2.1, t297.2.2, b271, a298, p299, t297.1.Key.length, a302, p303, t297.2.1.length, v306, I, H, ⟨by kernel_rfl, by kernel_rfl, by kernel_rfl, by kernel_rfl, trivial⟩, hs.pk (.c d1 (.c d0 (.c d0 (.c d0 (.c d4 (.c d3 (.c d3 .n)))))))⟩
     ·refine aA rfl (cvO (e := 5) hs ?_)
      intro I h hs
      refine ⟨hs.keep, ?_⟩
      replace hs := (hs.f d2)
      refine aRun [5] 10 hs.keep ?_
      refine aO1 2 rfl (cvO (e := 5) hs ?_)
      intro I h hs
      refine ⟨hs.keep, ?_⟩
      obtain ⟨hk, bk⟩ := hs.call tk0 (.c (qI d0) (.c (qI d1) .n))
      refine aO1 6 rfl (o_call H (fun _ m => shutterref19_Seal.calls m hk) ?_)
      rintro t308 _ h H ⟨I, _, ⟨a309, p310, n311, rfl, rfl⟩, hk⟩
      replace hs := bk hk ct1 rfl
      obtain rfl := hs.nO d0
      refine ⟨hs.keep, ?_⟩
      obtain ⟨hk, bk⟩ := hs.call tk0 (.c (qK d5) (.c (qO d0) .n))
      refine aO1 7 rfl (o_call H (fun _ m => roam_Gate_Come.calls m hk) ?_)
      rintro t313 _ h H ⟨I, _, ⟨a314, p315, n316, a318, p319, n320, v322, rfl, rfl⟩, hk⟩
      replace hs := bk hk ct3 rfl
      obtain rfl := hs.nR d0
      obtain rfl := hs.nO d1
      refine ⟨hs.keep, ?_⟩
      refine aRun [8, 9, 10, 11] 3 hs.keep ?_
      refine aO1 13 rfl (sN (hs.f d6) 0 [.slice a314 t313.1.Key.length p315, .int .i64 t313.1.Dir, .int .i64 t313.1.Seen.Top, .int .u64 t313.1.Seen.Bits, .string t313.1.Peer.Addr, .int .i64 t313.1.Peer.Seq] [.slice a314 t313.1.Key.length p315, .int .i64 t313.1.Dir, .int .i64 t313.1.Seen.Top, .int .u64 t313.1.Seen.Bits, .string t313.1.Peer.Addr, .int .i64 t313.1.Peer.Seq] (ones_of rfl) ?_)
      intro h hs
      refine ⟨hs.keep, ?_⟩
      refine aRun [14] 1 hs.keep ?_
      replace hs := hs.pk (.c d0 (.c d0 (.c d0 (.c d0 (.c d0 (.c d0 (.c d0 .n)))))))
      replace hs := bk0 hs (.s ct6) rfl
      refine aOL 15 rfl (owp_pure v322 (by kernel_rfl) ?_)
      refine aEnd ?_
      exact k_end ⟨t313.1.Key, t313.1.Dir, t313.1.Seen.Top, t313.1.Seen.Bits, t313.1.Peer.Addr, t313.1.Peer.Seq, t313.2.1, t313.2.2, b271, a314, p315, t313.1.Key.length, a318, p319, t313.2.1.length, v322, I, H, ⟨by kernel_rfl, by kernel_rfl, by kernel_rfl, by kernel_rfl, trivial⟩, hs.pk (.c d1 (.c d0 (.c d0 (.c d0 (.c d4 (.c d3 (.c d3 .n)))))))⟩
  ·refine aA rfl (nS (e := 5) hs .i (tInt .u8) ([98] : List Int) [.int .u8 98] 1 (.int .u8 0) (Reps.int (I := (Cl.G .i E.B I)) (k := .u8) (l := [98])) ?_)
   intro b324 h hs
   refine ⟨hs.keep, ?_⟩
   refine aT3 1 4 12 ?_ ?_ ?_
   ·refine aA rfl (nS (e := 5) hs .i (tInt .u8) ([107] : List Int) [.int .u8 107] 1 (.int .u8 0) (Reps.int (I := (Cl.G .i E.B I)) (k := .u8) (l := [107])) ?_)
    intro b326 h hs
    refine ⟨hs.keep, ?_⟩
    refine aT3 2 4 12 ?_ ?_ ?_
    ·refine aA rfl (cvO (e := 5) hs ?_)
     intro I h hs
     refine ⟨hs.keep, ?_⟩
     refine aT2 4 12 ?_ ?_
     ·replace hs := (hs.f d1)
      refine aA rfl (cvO (e := 5) hs ?_)
      intro I h hs
      refine ⟨hs.keep, ?_⟩
      refine aRun [5] 10 hs.keep ?_
      refine aT2 6 12 ?_ ?_
      ·obtain ⟨hk, bk⟩ := hs.call tk0 (.c (qI d1) (.c (qI d0) .n))
       refine aA rfl (o_call H (fun _ m => shutterref19_Seal.calls m hk) ?_)
       rintro t328 _ h H ⟨I, _, ⟨a329, p330, n331, rfl, rfl⟩, hk⟩
       replace hs := bk hk ct1 rfl
       obtain rfl := hs.nO d0
       refine ⟨hs.keep, ?_⟩
       refine aT2 7 12 ?_ ?_
       ·obtain ⟨hk, bk⟩ := hs.call tk0 (.c (qK d4) (.c (qO d0) .n))
        refine aA rfl (o_call H (fun _ m => roam_Gate_Come.calls m hk) ?_)
        rintro t333 _ h H ⟨I, _, ⟨a334, p335, n336, a338, p339, n340, v342, rfl, rfl⟩, hk⟩
        replace hs := bk hk ct3 rfl
        obtain rfl := hs.nR d0
        obtain rfl := hs.nO d1
        refine ⟨hs.keep, ?_⟩
        refine aRun [8, 9, 10, 11] 4 hs.keep ?_
        refine aO1 12 rfl (nA hs [.slice none 0 0, .int .i64 0, .int .i64 0, .int .u64 0, .string (⟨#[]⟩ : ByteArray), .int .i64 0] (.agg #[.slice none 0 0, .int .i64 0, .int .i64 0, .int .u64 0, .string (⟨#[]⟩ : ByteArray), .int .i64 0]) ?_)
        intro b344 h hs
        refine ⟨hs.keep, ?_⟩
        refine aO1 13 rfl (sN hs 0 [.slice a334 t333.1.Key.length p335, .int .i64 t333.1.Dir, .int .i64 t333.1.Seen.Top, .int .u64 t333.1.Seen.Bits, .string t333.1.Peer.Addr, .int .i64 t333.1.Peer.Seq] [.slice a334 t333.1.Key.length p335, .int .i64 t333.1.Dir, .int .i64 t333.1.Seen.Top, .int .u64 t333.1.Seen.Bits, .string t333.1.Peer.Addr, .int .i64 t333.1.Peer.Seq] (ones_of rfl) ?_)
        intro h hs
        refine ⟨hs.keep, ?_⟩
        refine aRun [14] 1 hs.keep ?_
        replace hs := hs.pk (.c d0 (.c d0 (.c d0 (.c d0 (.c d0 (.c d0 (.c d0 .n)))))))
        replace hs := bk0 hs (.s ct6) rfl
        refine aOL 15 rfl (owp_pure v342 (by kernel_rfl) ?_)
        refine aEnd ?_
        exact k_end ⟨t333.1.Key, t333.1.Dir, t333.1.Seen.Top, t333.1.Seen.Bits, t333.1.Peer.Addr, t333.1.Peer.Seq, t333.2.1, t333.2.2, b344, a334, p335, t333.1.Key.length, a338, p339, t333.2.1.length, v342, I, H, ⟨by kernel_rfl, by kernel_rfl, by kernel_rfl, by kernel_rfl, trivial⟩, hs.pk (.c d1 (.c d0 (.c d0 (.c d0 (.c d4 (.c d3 (.c d3 .n)))))))⟩
       ·refine aA rfl (nA hs [.slice none 0 0, .int .i64 0, .int .i64 0, .int .u64 0, .string (⟨#[]⟩ : ByteArray), .int .i64 0] (.agg #[.slice none 0 0, .int .i64 0, .int .i64 0, .int .u64 0, .string (⟨#[]⟩ : ByteArray), .int .i64 0]) ?_)
        intro b345 h hs
        refine ⟨hs.keep, ?_⟩
        obtain ⟨hk, bk⟩ := hs.call tk0 (.c (qK d5) (.c (qO d1) .n))
        refine aO1 7 rfl (o_call H (fun _ m => roam_Gate_Come.calls m hk) ?_)
        rintro t346 _ h H ⟨I, _, ⟨a347, p348, n349, a351, p352, n353, v355, rfl, rfl⟩, hk⟩
        replace hs := bk hk ct3 rfl
        obtain rfl := hs.nR d0
        obtain rfl := hs.nO d1
        refine ⟨hs.keep, ?_⟩
        refine aRun [8, 9, 10, 11] 3 hs.keep ?_
        refine aO1 13 rfl (sN (hs.f d3) 0 [.slice a347 t346.1.Key.length p348, .int .i64 t346.1.Dir, .int .i64 t346.1.Seen.Top, .int .u64 t346.1.Seen.Bits, .string t346.1.Peer.Addr, .int .i64 t346.1.Peer.Seq] [.slice a347 t346.1.Key.length p348, .int .i64 t346.1.Dir, .int .i64 t346.1.Seen.Top, .int .u64 t346.1.Seen.Bits, .string t346.1.Peer.Addr, .int .i64 t346.1.Peer.Seq] (ones_of rfl) ?_)
        intro h hs
        refine ⟨hs.keep, ?_⟩
        refine aRun [14] 1 hs.keep ?_
        replace hs := hs.pk (.c d0 (.c d0 (.c d0 (.c d0 (.c d0 (.c d0 (.c d0 .n)))))))
        replace hs := bk0 hs (.s ct6) rfl
        refine aOL 15 rfl (owp_pure v355 (by kernel_rfl) ?_)
        refine aEnd ?_
        exact k_end ⟨t346.1.Key, t346.1.Dir, t346.1.Seen.Top, t346.1.Seen.Bits, t346.1.Peer.Addr, t346.1.Peer.Seq, t346.2.1, t346.2.2, b345, a347, p348, t346.1.Key.length, a351, p352, t346.2.1.length, v355, I, H, ⟨by kernel_rfl, by kernel_rfl, by kernel_rfl, by kernel_rfl, trivial⟩, hs.pk (.c d1 (.c d0 (.c d0 (.c d0 (.c d4 (.c d3 (.c d3 .n)))))))⟩
      ·refine aA rfl (nA hs [.slice none 0 0, .int .i64 0, .int .i64 0, .int .u64 0, .string (⟨#[]⟩ : ByteArray), .int .i64 0] (.agg #[.slice none 0 0, .int .i64 0, .int .i64 0, .int .u64 0, .string (⟨#[]⟩ : ByteArray), .int .i64 0]) ?_)
       intro b357 h hs
       refine ⟨hs.keep, ?_⟩
       obtain ⟨hk, bk⟩ := hs.call tk0 (.c (qI d2) (.c (qI d1) .n))
       refine aO1 6 rfl (o_call H (fun _ m => shutterref19_Seal.calls m hk) ?_)
       rintro t358 _ h H ⟨I, _, ⟨a359, p360, n361, rfl, rfl⟩, hk⟩
       replace hs := bk hk ct1 rfl
       obtain rfl := hs.nO d0
       refine ⟨hs.keep, ?_⟩
       obtain ⟨hk, bk⟩ := hs.call tk0 (.c (qK d5) (.c (qO d0) .n))
       refine aO1 7 rfl (o_call H (fun _ m => roam_Gate_Come.calls m hk) ?_)
       rintro t363 _ h H ⟨I, _, ⟨a364, p365, n366, a368, p369, n370, v372, rfl, rfl⟩, hk⟩
       replace hs := bk hk ct3 rfl
       obtain rfl := hs.nR d0
       obtain rfl := hs.nO d1
       refine ⟨hs.keep, ?_⟩
       refine aRun [8, 9, 10, 11] 3 hs.keep ?_
       refine aO1 13 rfl (sN (hs.f d4) 0 [.slice a364 t363.1.Key.length p365, .int .i64 t363.1.Dir, .int .i64 t363.1.Seen.Top, .int .u64 t363.1.Seen.Bits, .string t363.1.Peer.Addr, .int .i64 t363.1.Peer.Seq] [.slice a364 t363.1.Key.length p365, .int .i64 t363.1.Dir, .int .i64 t363.1.Seen.Top, .int .u64 t363.1.Seen.Bits, .string t363.1.Peer.Addr, .int .i64 t363.1.Peer.Seq] (ones_of rfl) ?_)
       intro h hs
       refine ⟨hs.keep, ?_⟩
       refine aRun [14] 1 hs.keep ?_
       replace hs := hs.pk (.c d0 (.c d0 (.c d0 (.c d0 (.c d0 (.c d0 (.c d0 .n)))))))
       replace hs := bk0 hs (.s ct6) rfl
       refine aOL 15 rfl (owp_pure v372 (by kernel_rfl) ?_)
       refine aEnd ?_
       exact k_end ⟨t363.1.Key, t363.1.Dir, t363.1.Seen.Top, t363.1.Seen.Bits, t363.1.Peer.Addr, t363.1.Peer.Seq, t363.2.1, t363.2.2, b357, a364, p365, t363.1.Key.length, a368, p369, t363.2.1.length, v372, I, H, ⟨by kernel_rfl, by kernel_rfl, by kernel_rfl, by kernel_rfl, trivial⟩, hs.pk (.c d1 (.c d0 (.c d0 (.c d0 (.c d4 (.c d3 (.c d3 .n)))))))⟩
     ·refine aA rfl (nA hs [.slice none 0 0, .int .i64 0, .int .i64 0, .int .u64 0, .string (⟨#[]⟩ : ByteArray), .int .i64 0] (.agg #[.slice none 0 0, .int .i64 0, .int .i64 0, .int .u64 0, .string (⟨#[]⟩ : ByteArray), .int .i64 0]) ?_)
      intro b374 h hs
      refine ⟨hs.keep, ?_⟩
      replace hs := (hs.f d2)
      refine aO1 4 rfl (cvO (e := 5) hs ?_)
      intro I h hs
      refine ⟨hs.keep, ?_⟩
      refine aRun [5] 9 hs.keep ?_
      obtain ⟨hk, bk⟩ := hs.call tk0 (.c (qI d2) (.c (qI d0) .n))
      refine aO1 6 rfl (o_call H (fun _ m => shutterref19_Seal.calls m hk) ?_)
      rintro t375 _ h H ⟨I, _, ⟨a376, p377, n378, rfl, rfl⟩, hk⟩
      replace hs := bk hk ct1 rfl
      obtain rfl := hs.nO d0
      refine ⟨hs.keep, ?_⟩
      obtain ⟨hk, bk⟩ := hs.call tk0 (.c (qK d5) (.c (qO d0) .n))
      refine aO1 7 rfl (o_call H (fun _ m => roam_Gate_Come.calls m hk) ?_)
      rintro t380 _ h H ⟨I, _, ⟨a381, p382, n383, a385, p386, n387, v389, rfl, rfl⟩, hk⟩
      replace hs := bk hk ct3 rfl
      obtain rfl := hs.nR d0
      obtain rfl := hs.nO d1
      refine ⟨hs.keep, ?_⟩
      refine aRun [8, 9, 10, 11] 3 hs.keep ?_
      refine aO1 13 rfl (sN (hs.f d5) 0 [.slice a381 t380.1.Key.length p382, .int .i64 t380.1.Dir, .int .i64 t380.1.Seen.Top, .int .u64 t380.1.Seen.Bits, .string t380.1.Peer.Addr, .int .i64 t380.1.Peer.Seq] [.slice a381 t380.1.Key.length p382, .int .i64 t380.1.Dir, .int .i64 t380.1.Seen.Top, .int .u64 t380.1.Seen.Bits, .string t380.1.Peer.Addr, .int .i64 t380.1.Peer.Seq] (ones_of rfl) ?_)
      intro h hs
      refine ⟨hs.keep, ?_⟩
      refine aRun [14] 1 hs.keep ?_
      replace hs := hs.pk (.c d0 (.c d0 (.c d0 (.c d0 (.c d0 (.c d0 (.c d0 .n)))))))
      replace hs := bk0 hs (.s ct6) rfl
      refine aOL 15 rfl (owp_pure v389 (by kernel_rfl) ?_)
      refine aEnd ?_
      exact k_end ⟨t380.1.Key, t380.1.Dir, t380.1.Seen.Top, t380.1.Seen.Bits, t380.1.Peer.Addr, t380.1.Peer.Seq, t380.2.1, t380.2.2, b374, a381, p382, t380.1.Key.length, a385, p386, t380.2.1.length, v389, I, H, ⟨by kernel_rfl, by kernel_rfl, by kernel_rfl, by kernel_rfl, trivial⟩, hs.pk (.c d1 (.c d0 (.c d0 (.c d0 (.c d4 (.c d3 (.c d3 .n)))))))⟩
    ·replace hs := (hs.f d1)
     refine aA rfl (cvO (e := 5) hs ?_)
     intro I h hs
     refine ⟨hs.keep, ?_⟩
     refine aRun [5] 11 hs.keep ?_
     refine aT2 2 12 ?_ ?_
     ·replace hs := (hs.f d1)
      refine aA rfl (cvO (e := 5) hs ?_)
      intro I h hs
      refine ⟨hs.keep, ?_⟩
      refine aT2 6 12 ?_ ?_
      ·obtain ⟨hk, bk⟩ := hs.call tk0 (.c (qI d0) (.c (qI d1) .n))
       refine aA rfl (o_call H (fun _ m => shutterref19_Seal.calls m hk) ?_)
       rintro t391 _ h H ⟨I, _, ⟨a392, p393, n394, rfl, rfl⟩, hk⟩
       replace hs := bk hk ct1 rfl
       obtain rfl := hs.nO d0
       refine ⟨hs.keep, ?_⟩
       refine aT2 7 12 ?_ ?_
       ·obtain ⟨hk, bk⟩ := hs.call tk0 (.c (qK d4) (.c (qO d0) .n))
        refine aA rfl (o_call H (fun _ m => roam_Gate_Come.calls m hk) ?_)
        rintro t396 _ h H ⟨I, _, ⟨a397, p398, n399, a401, p402, n403, v405, rfl, rfl⟩, hk⟩
        replace hs := bk hk ct3 rfl
        obtain rfl := hs.nR d0
        obtain rfl := hs.nO d1
        refine ⟨hs.keep, ?_⟩
        refine aRun [8, 9, 10, 11] 4 hs.keep ?_
        refine aO1 12 rfl (nA hs [.slice none 0 0, .int .i64 0, .int .i64 0, .int .u64 0, .string (⟨#[]⟩ : ByteArray), .int .i64 0] (.agg #[.slice none 0 0, .int .i64 0, .int .i64 0, .int .u64 0, .string (⟨#[]⟩ : ByteArray), .int .i64 0]) ?_)
        intro b407 h hs
        refine ⟨hs.keep, ?_⟩
        refine aO1 13 rfl (sN hs 0 [.slice a397 t396.1.Key.length p398, .int .i64 t396.1.Dir, .int .i64 t396.1.Seen.Top, .int .u64 t396.1.Seen.Bits, .string t396.1.Peer.Addr, .int .i64 t396.1.Peer.Seq] [.slice a397 t396.1.Key.length p398, .int .i64 t396.1.Dir, .int .i64 t396.1.Seen.Top, .int .u64 t396.1.Seen.Bits, .string t396.1.Peer.Addr, .int .i64 t396.1.Peer.Seq] (ones_of rfl) ?_)
        intro h hs
        refine ⟨hs.keep, ?_⟩
        refine aRun [14] 1 hs.keep ?_
        replace hs := hs.pk (.c d0 (.c d0 (.c d0 (.c d0 (.c d0 (.c d0 (.c d0 .n)))))))
        replace hs := bk0 hs (.s ct6) rfl
        refine aOL 15 rfl (owp_pure v405 (by kernel_rfl) ?_)
        refine aEnd ?_
        exact k_end ⟨t396.1.Key, t396.1.Dir, t396.1.Seen.Top, t396.1.Seen.Bits, t396.1.Peer.Addr, t396.1.Peer.Seq, t396.2.1, t396.2.2, b407, a397, p398, t396.1.Key.length, a401, p402, t396.2.1.length, v405, I, H, ⟨by kernel_rfl, by kernel_rfl, by kernel_rfl, by kernel_rfl, trivial⟩, hs.pk (.c d1 (.c d0 (.c d0 (.c d0 (.c d4 (.c d3 (.c d3 .n)))))))⟩
       ·refine aA rfl (nA hs [.slice none 0 0, .int .i64 0, .int .i64 0, .int .u64 0, .string (⟨#[]⟩ : ByteArray), .int .i64 0] (.agg #[.slice none 0 0, .int .i64 0, .int .i64 0, .int .u64 0, .string (⟨#[]⟩ : ByteArray), .int .i64 0]) ?_)
        intro b408 h hs
        refine ⟨hs.keep, ?_⟩
        obtain ⟨hk, bk⟩ := hs.call tk0 (.c (qK d5) (.c (qO d1) .n))
        refine aO1 7 rfl (o_call H (fun _ m => roam_Gate_Come.calls m hk) ?_)
        rintro t409 _ h H ⟨I, _, ⟨a410, p411, n412, a414, p415, n416, v418, rfl, rfl⟩, hk⟩
        replace hs := bk hk ct3 rfl
        obtain rfl := hs.nR d0
        obtain rfl := hs.nO d1
        refine ⟨hs.keep, ?_⟩
        refine aRun [8, 9, 10, 11] 3 hs.keep ?_
        refine aO1 13 rfl (sN (hs.f d3) 0 [.slice a410 t409.1.Key.length p411, .int .i64 t409.1.Dir, .int .i64 t409.1.Seen.Top, .int .u64 t409.1.Seen.Bits, .string t409.1.Peer.Addr, .int .i64 t409.1.Peer.Seq] [.slice a410 t409.1.Key.length p411, .int .i64 t409.1.Dir, .int .i64 t409.1.Seen.Top, .int .u64 t409.1.Seen.Bits, .string t409.1.Peer.Addr, .int .i64 t409.1.Peer.Seq] (ones_of rfl) ?_)
        intro h hs
        refine ⟨hs.keep, ?_⟩
        refine aRun [14] 1 hs.keep ?_
        replace hs := hs.pk (.c d0 (.c d0 (.c d0 (.c d0 (.c d0 (.c d0 (.c d0 .n)))))))
        replace hs := bk0 hs (.s ct6) rfl
        refine aOL 15 rfl (owp_pure v418 (by kernel_rfl) ?_)
        refine aEnd ?_
        exact k_end ⟨t409.1.Key, t409.1.Dir, t409.1.Seen.Top, t409.1.Seen.Bits, t409.1.Peer.Addr, t409.1.Peer.Seq, t409.2.1, t409.2.2, b408, a410, p411, t409.1.Key.length, a414, p415, t409.2.1.length, v418, I, H, ⟨by kernel_rfl, by kernel_rfl, by kernel_rfl, by kernel_rfl, trivial⟩, hs.pk (.c d1 (.c d0 (.c d0 (.c d0 (.c d4 (.c d3 (.c d3 .n)))))))⟩
      ·refine aA rfl (nA hs [.slice none 0 0, .int .i64 0, .int .i64 0, .int .u64 0, .string (⟨#[]⟩ : ByteArray), .int .i64 0] (.agg #[.slice none 0 0, .int .i64 0, .int .i64 0, .int .u64 0, .string (⟨#[]⟩ : ByteArray), .int .i64 0]) ?_)
       intro b420 h hs
       refine ⟨hs.keep, ?_⟩
       obtain ⟨hk, bk⟩ := hs.call tk0 (.c (qI d1) (.c (qI d2) .n))
       refine aO1 6 rfl (o_call H (fun _ m => shutterref19_Seal.calls m hk) ?_)
       rintro t421 _ h H ⟨I, _, ⟨a422, p423, n424, rfl, rfl⟩, hk⟩
       replace hs := bk hk ct1 rfl
       obtain rfl := hs.nO d0
       refine ⟨hs.keep, ?_⟩
       obtain ⟨hk, bk⟩ := hs.call tk0 (.c (qK d5) (.c (qO d0) .n))
       refine aO1 7 rfl (o_call H (fun _ m => roam_Gate_Come.calls m hk) ?_)
       rintro t426 _ h H ⟨I, _, ⟨a427, p428, n429, a431, p432, n433, v435, rfl, rfl⟩, hk⟩
       replace hs := bk hk ct3 rfl
       obtain rfl := hs.nR d0
       obtain rfl := hs.nO d1
       refine ⟨hs.keep, ?_⟩
       refine aRun [8, 9, 10, 11] 3 hs.keep ?_
       refine aO1 13 rfl (sN (hs.f d4) 0 [.slice a427 t426.1.Key.length p428, .int .i64 t426.1.Dir, .int .i64 t426.1.Seen.Top, .int .u64 t426.1.Seen.Bits, .string t426.1.Peer.Addr, .int .i64 t426.1.Peer.Seq] [.slice a427 t426.1.Key.length p428, .int .i64 t426.1.Dir, .int .i64 t426.1.Seen.Top, .int .u64 t426.1.Seen.Bits, .string t426.1.Peer.Addr, .int .i64 t426.1.Peer.Seq] (ones_of rfl) ?_)
       intro h hs
       refine ⟨hs.keep, ?_⟩
       refine aRun [14] 1 hs.keep ?_
       replace hs := hs.pk (.c d0 (.c d0 (.c d0 (.c d0 (.c d0 (.c d0 (.c d0 .n)))))))
       replace hs := bk0 hs (.s ct6) rfl
       refine aOL 15 rfl (owp_pure v435 (by kernel_rfl) ?_)
       refine aEnd ?_
       exact k_end ⟨t426.1.Key, t426.1.Dir, t426.1.Seen.Top, t426.1.Seen.Bits, t426.1.Peer.Addr, t426.1.Peer.Seq, t426.2.1, t426.2.2, b420, a427, p428, t426.1.Key.length, a431, p432, t426.2.1.length, v435, I, H, ⟨by kernel_rfl, by kernel_rfl, by kernel_rfl, by kernel_rfl, trivial⟩, hs.pk (.c d1 (.c d0 (.c d0 (.c d0 (.c d4 (.c d3 (.c d3 .n)))))))⟩
     ·refine aA rfl (nA hs [.slice none 0 0, .int .i64 0, .int .i64 0, .int .u64 0, .string (⟨#[]⟩ : ByteArray), .int .i64 0] (.agg #[.slice none 0 0, .int .i64 0, .int .i64 0, .int .u64 0, .string (⟨#[]⟩ : ByteArray), .int .i64 0]) ?_)
      intro b437 h hs
      refine ⟨hs.keep, ?_⟩
      replace hs := (hs.f d2)
      refine aO1 2 rfl (cvO (e := 5) hs ?_)
      intro I h hs
      refine ⟨hs.keep, ?_⟩
      obtain ⟨hk, bk⟩ := hs.call tk0 (.c (qI d0) (.c (qI d2) .n))
      refine aO1 6 rfl (o_call H (fun _ m => shutterref19_Seal.calls m hk) ?_)
      rintro t438 _ h H ⟨I, _, ⟨a439, p440, n441, rfl, rfl⟩, hk⟩
      replace hs := bk hk ct1 rfl
      obtain rfl := hs.nO d0
      refine ⟨hs.keep, ?_⟩
      obtain ⟨hk, bk⟩ := hs.call tk0 (.c (qK d5) (.c (qO d0) .n))
      refine aO1 7 rfl (o_call H (fun _ m => roam_Gate_Come.calls m hk) ?_)
      rintro t443 _ h H ⟨I, _, ⟨a444, p445, n446, a448, p449, n450, v452, rfl, rfl⟩, hk⟩
      replace hs := bk hk ct3 rfl
      obtain rfl := hs.nR d0
      obtain rfl := hs.nO d1
      refine ⟨hs.keep, ?_⟩
      refine aRun [8, 9, 10, 11] 3 hs.keep ?_
      refine aO1 13 rfl (sN (hs.f d5) 0 [.slice a444 t443.1.Key.length p445, .int .i64 t443.1.Dir, .int .i64 t443.1.Seen.Top, .int .u64 t443.1.Seen.Bits, .string t443.1.Peer.Addr, .int .i64 t443.1.Peer.Seq] [.slice a444 t443.1.Key.length p445, .int .i64 t443.1.Dir, .int .i64 t443.1.Seen.Top, .int .u64 t443.1.Seen.Bits, .string t443.1.Peer.Addr, .int .i64 t443.1.Peer.Seq] (ones_of rfl) ?_)
      intro h hs
      refine ⟨hs.keep, ?_⟩
      refine aRun [14] 1 hs.keep ?_
      replace hs := hs.pk (.c d0 (.c d0 (.c d0 (.c d0 (.c d0 (.c d0 (.c d0 .n)))))))
      replace hs := bk0 hs (.s ct6) rfl
      refine aOL 15 rfl (owp_pure v452 (by kernel_rfl) ?_)
      refine aEnd ?_
      exact k_end ⟨t443.1.Key, t443.1.Dir, t443.1.Seen.Top, t443.1.Seen.Bits, t443.1.Peer.Addr, t443.1.Peer.Seq, t443.2.1, t443.2.2, b437, a444, p445, t443.1.Key.length, a448, p449, t443.2.1.length, v452, I, H, ⟨by kernel_rfl, by kernel_rfl, by kernel_rfl, by kernel_rfl, trivial⟩, hs.pk (.c d1 (.c d0 (.c d0 (.c d0 (.c d4 (.c d3 (.c d3 .n)))))))⟩
    ·refine aA rfl (nA hs [.slice none 0 0, .int .i64 0, .int .i64 0, .int .u64 0, .string (⟨#[]⟩ : ByteArray), .int .i64 0] (.agg #[.slice none 0 0, .int .i64 0, .int .i64 0, .int .u64 0, .string (⟨#[]⟩ : ByteArray), .int .i64 0]) ?_)
     intro b454 h hs
     refine ⟨hs.keep, ?_⟩
     refine aT2 2 4 ?_ ?_
     ·replace hs := (hs.f d1)
      refine aA rfl (cvO (e := 5) hs ?_)
      intro I h hs
      refine ⟨hs.keep, ?_⟩
      replace hs := (hs.f d2)
      refine aO1 4 rfl (cvO (e := 5) hs ?_)
      intro I h hs
      refine ⟨hs.keep, ?_⟩
      refine aRun [5] 9 hs.keep ?_
      obtain ⟨hk, bk⟩ := hs.call tk0 (.c (qI d1) (.c (qI d0) .n))
      refine aO1 6 rfl (o_call H (fun _ m => shutterref19_Seal.calls m hk) ?_)
      rintro t455 _ h H ⟨I, _, ⟨a456, p457, n458, rfl, rfl⟩, hk⟩
      replace hs := bk hk ct1 rfl
      obtain rfl := hs.nO d0
      refine ⟨hs.keep, ?_⟩
      obtain ⟨hk, bk⟩ := hs.call tk0 (.c (qK d5) (.c (qO d0) .n))
      refine aO1 7 rfl (o_call H (fun _ m => roam_Gate_Come.calls m hk) ?_)
      rintro t460 _ h H ⟨I, _, ⟨a461, p462, n463, a465, p466, n467, v469, rfl, rfl⟩, hk⟩
      replace hs := bk hk ct3 rfl
      obtain rfl := hs.nR d0
      obtain rfl := hs.nO d1
      refine ⟨hs.keep, ?_⟩
      refine aRun [8, 9, 10, 11] 3 hs.keep ?_
      refine aO1 13 rfl (sN (hs.f d6) 0 [.slice a461 t460.1.Key.length p462, .int .i64 t460.1.Dir, .int .i64 t460.1.Seen.Top, .int .u64 t460.1.Seen.Bits, .string t460.1.Peer.Addr, .int .i64 t460.1.Peer.Seq] [.slice a461 t460.1.Key.length p462, .int .i64 t460.1.Dir, .int .i64 t460.1.Seen.Top, .int .u64 t460.1.Seen.Bits, .string t460.1.Peer.Addr, .int .i64 t460.1.Peer.Seq] (ones_of rfl) ?_)
      intro h hs
      refine ⟨hs.keep, ?_⟩
      refine aRun [14] 1 hs.keep ?_
      replace hs := hs.pk (.c d0 (.c d0 (.c d0 (.c d0 (.c d0 (.c d0 (.c d0 .n)))))))
      replace hs := bk0 hs (.s ct6) rfl
      refine aOL 15 rfl (owp_pure v469 (by kernel_rfl) ?_)
      refine aEnd ?_
      exact k_end ⟨t460.1.Key, t460.1.Dir, t460.1.Seen.Top, t460.1.Seen.Bits, t460.1.Peer.Addr, t460.1.Peer.Seq, t460.2.1, t460.2.2, b454, a461, p462, t460.1.Key.length, a465, p466, t460.2.1.length, v469, I, H, ⟨by kernel_rfl, by kernel_rfl, by kernel_rfl, by kernel_rfl, trivial⟩, hs.pk (.c d1 (.c d0 (.c d0 (.c d0 (.c d4 (.c d3 (.c d3 .n)))))))⟩
     ·replace hs := (hs.f d2)
      refine aA rfl (cvO (e := 5) hs ?_)
      intro I h hs
      refine ⟨hs.keep, ?_⟩
      replace hs := (hs.f d2)
      refine aRun [5] 10 hs.keep ?_
      refine aO1 2 rfl (cvO (e := 5) hs ?_)
      intro I h hs
      refine ⟨hs.keep, ?_⟩
      obtain ⟨hk, bk⟩ := hs.call tk0 (.c (qI d0) (.c (qI d1) .n))
      refine aO1 6 rfl (o_call H (fun _ m => shutterref19_Seal.calls m hk) ?_)
      rintro t471 _ h H ⟨I, _, ⟨a472, p473, n474, rfl, rfl⟩, hk⟩
      replace hs := bk hk ct1 rfl
      obtain rfl := hs.nO d0
      refine ⟨hs.keep, ?_⟩
      obtain ⟨hk, bk⟩ := hs.call tk0 (.c (qK d5) (.c (qO d0) .n))
      refine aO1 7 rfl (o_call H (fun _ m => roam_Gate_Come.calls m hk) ?_)
      rintro t476 _ h H ⟨I, _, ⟨a477, p478, n479, a481, p482, n483, v485, rfl, rfl⟩, hk⟩
      replace hs := bk hk ct3 rfl
      obtain rfl := hs.nR d0
      obtain rfl := hs.nO d1
      refine ⟨hs.keep, ?_⟩
      refine aRun [8, 9, 10, 11] 3 hs.keep ?_
      refine aO1 13 rfl (sN (hs.f d6) 0 [.slice a477 t476.1.Key.length p478, .int .i64 t476.1.Dir, .int .i64 t476.1.Seen.Top, .int .u64 t476.1.Seen.Bits, .string t476.1.Peer.Addr, .int .i64 t476.1.Peer.Seq] [.slice a477 t476.1.Key.length p478, .int .i64 t476.1.Dir, .int .i64 t476.1.Seen.Top, .int .u64 t476.1.Seen.Bits, .string t476.1.Peer.Addr, .int .i64 t476.1.Peer.Seq] (ones_of rfl) ?_)
      intro h hs
      refine ⟨hs.keep, ?_⟩
      refine aRun [14] 1 hs.keep ?_
      replace hs := hs.pk (.c d0 (.c d0 (.c d0 (.c d0 (.c d0 (.c d0 (.c d0 .n)))))))
      replace hs := bk0 hs (.s ct6) rfl
      refine aOL 15 rfl (owp_pure v485 (by kernel_rfl) ?_)
      refine aEnd ?_
      exact k_end ⟨t476.1.Key, t476.1.Dir, t476.1.Seen.Top, t476.1.Seen.Bits, t476.1.Peer.Addr, t476.1.Peer.Seq, t476.2.1, t476.2.2, b454, a477, p478, t476.1.Key.length, a481, p482, t476.2.1.length, v485, I, H, ⟨by kernel_rfl, by kernel_rfl, by kernel_rfl, by kernel_rfl, trivial⟩, hs.pk (.c d1 (.c d0 (.c d0 (.c d0 (.c d4 (.c d3 (.c d3 .n)))))))⟩
   ·refine aA rfl (cvO (e := 5) hs ?_)
    intro I h hs
    refine ⟨hs.keep, ?_⟩
    refine aRun [5] 12 hs.keep ?_
    refine aT2 1 12 ?_ ?_
    ·refine aA rfl (nS (e := 5) hs .i (tInt .u8) ([107] : List Int) [.int .u8 107] 1 (.int .u8 0) (Reps.int (I := (Cl.G .i E.B I)) (k := .u8) (l := [107])) ?_)
     intro b487 h hs
     refine ⟨hs.keep, ?_⟩
     refine aT2 2 12 ?_ ?_
     ·refine aA rfl (cvO (e := 5) hs ?_)
      intro I h hs
      refine ⟨hs.keep, ?_⟩
      refine aT2 6 12 ?_ ?_
      ·obtain ⟨hk, bk⟩ := hs.call tk0 (.c (qI d0) (.c (qI d1) .n))
       refine aA rfl (o_call H (fun _ m => shutterref19_Seal.calls m hk) ?_)
       rintro t489 _ h H ⟨I, _, ⟨a490, p491, n492, rfl, rfl⟩, hk⟩
       replace hs := bk hk ct1 rfl
       obtain rfl := hs.nO d0
       refine ⟨hs.keep, ?_⟩
       refine aT2 7 12 ?_ ?_
       ·obtain ⟨hk, bk⟩ := hs.call tk0 (.c (qK d4) (.c (qO d0) .n))
        refine aA rfl (o_call H (fun _ m => roam_Gate_Come.calls m hk) ?_)
        rintro t494 _ h H ⟨I, _, ⟨a495, p496, n497, a499, p500, n501, v503, rfl, rfl⟩, hk⟩
        replace hs := bk hk ct3 rfl
        obtain rfl := hs.nR d0
        obtain rfl := hs.nO d1
        refine ⟨hs.keep, ?_⟩
        refine aRun [8, 9, 10, 11] 4 hs.keep ?_
        refine aO1 12 rfl (nA hs [.slice none 0 0, .int .i64 0, .int .i64 0, .int .u64 0, .string (⟨#[]⟩ : ByteArray), .int .i64 0] (.agg #[.slice none 0 0, .int .i64 0, .int .i64 0, .int .u64 0, .string (⟨#[]⟩ : ByteArray), .int .i64 0]) ?_)
        intro b505 h hs
        refine ⟨hs.keep, ?_⟩
        refine aO1 13 rfl (sN hs 0 [.slice a495 t494.1.Key.length p496, .int .i64 t494.1.Dir, .int .i64 t494.1.Seen.Top, .int .u64 t494.1.Seen.Bits, .string t494.1.Peer.Addr, .int .i64 t494.1.Peer.Seq] [.slice a495 t494.1.Key.length p496, .int .i64 t494.1.Dir, .int .i64 t494.1.Seen.Top, .int .u64 t494.1.Seen.Bits, .string t494.1.Peer.Addr, .int .i64 t494.1.Peer.Seq] (ones_of rfl) ?_)
        intro h hs
        refine ⟨hs.keep, ?_⟩
        refine aRun [14] 1 hs.keep ?_
        replace hs := hs.pk (.c d0 (.c d0 (.c d0 (.c d0 (.c d0 (.c d0 (.c d0 .n)))))))
        replace hs := bk0 hs (.s ct6) rfl
        refine aOL 15 rfl (owp_pure v503 (by kernel_rfl) ?_)
        refine aEnd ?_
        exact k_end ⟨t494.1.Key, t494.1.Dir, t494.1.Seen.Top, t494.1.Seen.Bits, t494.1.Peer.Addr, t494.1.Peer.Seq, t494.2.1, t494.2.2, b505, a495, p496, t494.1.Key.length, a499, p500, t494.2.1.length, v503, I, H, ⟨by kernel_rfl, by kernel_rfl, by kernel_rfl, by kernel_rfl, trivial⟩, hs.pk (.c d1 (.c d0 (.c d0 (.c d0 (.c d4 (.c d3 (.c d3 .n)))))))⟩
       ·refine aA rfl (nA hs [.slice none 0 0, .int .i64 0, .int .i64 0, .int .u64 0, .string (⟨#[]⟩ : ByteArray), .int .i64 0] (.agg #[.slice none 0 0, .int .i64 0, .int .i64 0, .int .u64 0, .string (⟨#[]⟩ : ByteArray), .int .i64 0]) ?_)
        intro b506 h hs
        refine ⟨hs.keep, ?_⟩
        obtain ⟨hk, bk⟩ := hs.call tk0 (.c (qK d5) (.c (qO d1) .n))
        refine aO1 7 rfl (o_call H (fun _ m => roam_Gate_Come.calls m hk) ?_)
        rintro t507 _ h H ⟨I, _, ⟨a508, p509, n510, a512, p513, n514, v516, rfl, rfl⟩, hk⟩
        replace hs := bk hk ct3 rfl
        obtain rfl := hs.nR d0
        obtain rfl := hs.nO d1
        refine ⟨hs.keep, ?_⟩
        refine aRun [8, 9, 10, 11] 3 hs.keep ?_
        refine aO1 13 rfl (sN (hs.f d3) 0 [.slice a508 t507.1.Key.length p509, .int .i64 t507.1.Dir, .int .i64 t507.1.Seen.Top, .int .u64 t507.1.Seen.Bits, .string t507.1.Peer.Addr, .int .i64 t507.1.Peer.Seq] [.slice a508 t507.1.Key.length p509, .int .i64 t507.1.Dir, .int .i64 t507.1.Seen.Top, .int .u64 t507.1.Seen.Bits, .string t507.1.Peer.Addr, .int .i64 t507.1.Peer.Seq] (ones_of rfl) ?_)
        intro h hs
        refine ⟨hs.keep, ?_⟩
        refine aRun [14] 1 hs.keep ?_
        replace hs := hs.pk (.c d0 (.c d0 (.c d0 (.c d0 (.c d0 (.c d0 (.c d0 .n)))))))
        replace hs := bk0 hs (.s ct6) rfl
        refine aOL 15 rfl (owp_pure v516 (by kernel_rfl) ?_)
        refine aEnd ?_
        exact k_end ⟨t507.1.Key, t507.1.Dir, t507.1.Seen.Top, t507.1.Seen.Bits, t507.1.Peer.Addr, t507.1.Peer.Seq, t507.2.1, t507.2.2, b506, a508, p509, t507.1.Key.length, a512, p513, t507.2.1.length, v516, I, H, ⟨by kernel_rfl, by kernel_rfl, by kernel_rfl, by kernel_rfl, trivial⟩, hs.pk (.c d1 (.c d0 (.c d0 (.c d0 (.c d4 (.c d3 (.c d3 .n)))))))⟩
      ·refine aA rfl (nA hs [.slice none 0 0, .int .i64 0, .int .i64 0, .int .u64 0, .string (⟨#[]⟩ : ByteArray), .int .i64 0] (.agg #[.slice none 0 0, .int .i64 0, .int .i64 0, .int .u64 0, .string (⟨#[]⟩ : ByteArray), .int .i64 0]) ?_)
       intro b518 h hs
       refine ⟨hs.keep, ?_⟩
       obtain ⟨hk, bk⟩ := hs.call tk0 (.c (qI d1) (.c (qI d2) .n))
       refine aO1 6 rfl (o_call H (fun _ m => shutterref19_Seal.calls m hk) ?_)
       rintro t519 _ h H ⟨I, _, ⟨a520, p521, n522, rfl, rfl⟩, hk⟩
       replace hs := bk hk ct1 rfl
       obtain rfl := hs.nO d0
       refine ⟨hs.keep, ?_⟩
       obtain ⟨hk, bk⟩ := hs.call tk0 (.c (qK d5) (.c (qO d0) .n))
       refine aO1 7 rfl (o_call H (fun _ m => roam_Gate_Come.calls m hk) ?_)
       rintro t524 _ h H ⟨I, _, ⟨a525, p526, n527, a529, p530, n531, v533, rfl, rfl⟩, hk⟩
       replace hs := bk hk ct3 rfl
       obtain rfl := hs.nR d0
       obtain rfl := hs.nO d1
       refine ⟨hs.keep, ?_⟩
       refine aRun [8, 9, 10, 11] 3 hs.keep ?_
       refine aO1 13 rfl (sN (hs.f d4) 0 [.slice a525 t524.1.Key.length p526, .int .i64 t524.1.Dir, .int .i64 t524.1.Seen.Top, .int .u64 t524.1.Seen.Bits, .string t524.1.Peer.Addr, .int .i64 t524.1.Peer.Seq] [.slice a525 t524.1.Key.length p526, .int .i64 t524.1.Dir, .int .i64 t524.1.Seen.Top, .int .u64 t524.1.Seen.Bits, .string t524.1.Peer.Addr, .int .i64 t524.1.Peer.Seq] (ones_of rfl) ?_)
       intro h hs
       refine ⟨hs.keep, ?_⟩
       refine aRun [14] 1 hs.keep ?_
       replace hs := hs.pk (.c d0 (.c d0 (.c d0 (.c d0 (.c d0 (.c d0 (.c d0 .n)))))))
       replace hs := bk0 hs (.s ct6) rfl
       refine aOL 15 rfl (owp_pure v533 (by kernel_rfl) ?_)
       refine aEnd ?_
       exact k_end ⟨t524.1.Key, t524.1.Dir, t524.1.Seen.Top, t524.1.Seen.Bits, t524.1.Peer.Addr, t524.1.Peer.Seq, t524.2.1, t524.2.2, b518, a525, p526, t524.1.Key.length, a529, p530, t524.2.1.length, v533, I, H, ⟨by kernel_rfl, by kernel_rfl, by kernel_rfl, by kernel_rfl, trivial⟩, hs.pk (.c d1 (.c d0 (.c d0 (.c d0 (.c d4 (.c d3 (.c d3 .n)))))))⟩
     ·refine aA rfl (nA hs [.slice none 0 0, .int .i64 0, .int .i64 0, .int .u64 0, .string (⟨#[]⟩ : ByteArray), .int .i64 0] (.agg #[.slice none 0 0, .int .i64 0, .int .i64 0, .int .u64 0, .string (⟨#[]⟩ : ByteArray), .int .i64 0]) ?_)
      intro b535 h hs
      refine ⟨hs.keep, ?_⟩
      replace hs := (hs.f d1)
      refine aO1 2 rfl (cvO (e := 5) hs ?_)
      intro I h hs
      refine ⟨hs.keep, ?_⟩
      obtain ⟨hk, bk⟩ := hs.call tk0 (.c (qI d0) (.c (qI d2) .n))
      refine aO1 6 rfl (o_call H (fun _ m => shutterref19_Seal.calls m hk) ?_)
      rintro t536 _ h H ⟨I, _, ⟨a537, p538, n539, rfl, rfl⟩, hk⟩
      replace hs := bk hk ct1 rfl
      obtain rfl := hs.nO d0
      refine ⟨hs.keep, ?_⟩
      obtain ⟨hk, bk⟩ := hs.call tk0 (.c (qK d5) (.c (qO d0) .n))
      refine aO1 7 rfl (o_call H (fun _ m => roam_Gate_Come.calls m hk) ?_)
      rintro t541 _ h H ⟨I, _, ⟨a542, p543, n544, a546, p547, n548, v550, rfl, rfl⟩, hk⟩
      replace hs := bk hk ct3 rfl
      obtain rfl := hs.nR d0
      obtain rfl := hs.nO d1
      refine ⟨hs.keep, ?_⟩
      refine aRun [8, 9, 10, 11] 3 hs.keep ?_
      refine aO1 13 rfl (sN (hs.f d5) 0 [.slice a542 t541.1.Key.length p543, .int .i64 t541.1.Dir, .int .i64 t541.1.Seen.Top, .int .u64 t541.1.Seen.Bits, .string t541.1.Peer.Addr, .int .i64 t541.1.Peer.Seq] [.slice a542 t541.1.Key.length p543, .int .i64 t541.1.Dir, .int .i64 t541.1.Seen.Top, .int .u64 t541.1.Seen.Bits, .string t541.1.Peer.Addr, .int .i64 t541.1.Peer.Seq] (ones_of rfl) ?_)
      intro h hs
      refine ⟨hs.keep, ?_⟩
      refine aRun [14] 1 hs.keep ?_
      replace hs := hs.pk (.c d0 (.c d0 (.c d0 (.c d0 (.c d0 (.c d0 (.c d0 .n)))))))
      replace hs := bk0 hs (.s ct6) rfl
      refine aOL 15 rfl (owp_pure v550 (by kernel_rfl) ?_)
      refine aEnd ?_
      exact k_end ⟨t541.1.Key, t541.1.Dir, t541.1.Seen.Top, t541.1.Seen.Bits, t541.1.Peer.Addr, t541.1.Peer.Seq, t541.2.1, t541.2.2, b535, a542, p543, t541.1.Key.length, a546, p547, t541.2.1.length, v550, I, H, ⟨by kernel_rfl, by kernel_rfl, by kernel_rfl, by kernel_rfl, trivial⟩, hs.pk (.c d1 (.c d0 (.c d0 (.c d0 (.c d4 (.c d3 (.c d3 .n)))))))⟩
    ·refine aA rfl (nA hs [.slice none 0 0, .int .i64 0, .int .i64 0, .int .u64 0, .string (⟨#[]⟩ : ByteArray), .int .i64 0] (.agg #[.slice none 0 0, .int .i64 0, .int .i64 0, .int .u64 0, .string (⟨#[]⟩ : ByteArray), .int .i64 0]) ?_)
     intro b552 h hs
     refine ⟨hs.keep, ?_⟩
     refine aO1 1 rfl (nS (e := 5) hs .i (tInt .u8) ([107] : List Int) [.int .u8 107] 1 (.int .u8 0) (Reps.int (I := (Cl.G .i E.B I)) (k := .u8) (l := [107])) ?_)
     intro b553 h hs
     refine ⟨hs.keep, ?_⟩
     refine aO1 2 rfl (cvO (e := 5) hs ?_)
     intro I h hs
     refine ⟨hs.keep, ?_⟩
     obtain ⟨hk, bk⟩ := hs.call tk0 (.c (qI d0) (.c (qI d2) .n))
     refine aO1 6 rfl (o_call H (fun _ m => shutterref19_Seal.calls m hk) ?_)
     rintro t555 _ h H ⟨I, _, ⟨a556, p557, n558, rfl, rfl⟩, hk⟩
     replace hs := bk hk ct1 rfl
     obtain rfl := hs.nO d0
     refine ⟨hs.keep, ?_⟩
     obtain ⟨hk, bk⟩ := hs.call tk0 (.c (qK d5) (.c (qO d0) .n))
     refine aO1 7 rfl (o_call H (fun _ m => roam_Gate_Come.calls m hk) ?_)
     rintro t560 _ h H ⟨I, _, ⟨a561, p562, n563, a565, p566, n567, v569, rfl, rfl⟩, hk⟩
     replace hs := bk hk ct3 rfl
     obtain rfl := hs.nR d0
     obtain rfl := hs.nO d1
     refine ⟨hs.keep, ?_⟩
     refine aRun [8, 9, 10, 11] 3 hs.keep ?_
     refine aO1 13 rfl (sN (hs.f d5) 0 [.slice a561 t560.1.Key.length p562, .int .i64 t560.1.Dir, .int .i64 t560.1.Seen.Top, .int .u64 t560.1.Seen.Bits, .string t560.1.Peer.Addr, .int .i64 t560.1.Peer.Seq] [.slice a561 t560.1.Key.length p562, .int .i64 t560.1.Dir, .int .i64 t560.1.Seen.Top, .int .u64 t560.1.Seen.Bits, .string t560.1.Peer.Addr, .int .i64 t560.1.Peer.Seq] (ones_of rfl) ?_)
     intro h hs
     refine ⟨hs.keep, ?_⟩
     refine aRun [14] 1 hs.keep ?_
     replace hs := hs.pk (.c d0 (.c d0 (.c d0 (.c d0 (.c d0 (.c d0 (.c d0 .n)))))))
     replace hs := bk0 hs (.s ct6) rfl
     refine aOL 15 rfl (owp_pure v569 (by kernel_rfl) ?_)
     refine aEnd ?_
     exact k_end ⟨t560.1.Key, t560.1.Dir, t560.1.Seen.Top, t560.1.Seen.Bits, t560.1.Peer.Addr, t560.1.Peer.Seq, t560.2.1, t560.2.2, b552, a561, p562, t560.1.Key.length, a565, p566, t560.2.1.length, v569, I, H, ⟨by kernel_rfl, by kernel_rfl, by kernel_rfl, by kernel_rfl, trivial⟩, hs.pk (.c d1 (.c d0 (.c d0 (.c d0 (.c d4 (.c d3 (.c d3 .n)))))))⟩
   ·refine aA rfl (nA hs [.slice none 0 0, .int .i64 0, .int .i64 0, .int .u64 0, .string (⟨#[]⟩ : ByteArray), .int .i64 0] (.agg #[.slice none 0 0, .int .i64 0, .int .i64 0, .int .u64 0, .string (⟨#[]⟩ : ByteArray), .int .i64 0]) ?_)
    intro b571 h hs
    refine ⟨hs.keep, ?_⟩
    refine aT2 1 4 ?_ ?_
    ·refine aA rfl (nS (e := 5) hs .i (tInt .u8) ([107] : List Int) [.int .u8 107] 1 (.int .u8 0) (Reps.int (I := (Cl.G .i E.B I)) (k := .u8) (l := [107])) ?_)
     intro b572 h hs
     refine ⟨hs.keep, ?_⟩
     refine aT2 2 4 ?_ ?_
     ·refine aA rfl (cvO (e := 5) hs ?_)
      intro I h hs
      refine ⟨hs.keep, ?_⟩
      replace hs := (hs.f d2)
      refine aO1 4 rfl (cvO (e := 5) hs ?_)
      intro I h hs
      refine ⟨hs.keep, ?_⟩
      refine aRun [5] 9 hs.keep ?_
      obtain ⟨hk, bk⟩ := hs.call tk0 (.c (qI d1) (.c (qI d0) .n))
      refine aO1 6 rfl (o_call H (fun _ m => shutterref19_Seal.calls m hk) ?_)
      rintro t574 _ h H ⟨I, _, ⟨a575, p576, n577, rfl, rfl⟩, hk⟩
      replace hs := bk hk ct1 rfl
      obtain rfl := hs.nO d0
      refine ⟨hs.keep, ?_⟩
      obtain ⟨hk, bk⟩ := hs.call tk0 (.c (qK d5) (.c (qO d0) .n))
      refine aO1 7 rfl (o_call H (fun _ m => roam_Gate_Come.calls m hk) ?_)
      rintro t579 _ h H ⟨I, _, ⟨a580, p581, n582, a584, p585, n586, v588, rfl, rfl⟩, hk⟩
      replace hs := bk hk ct3 rfl
      obtain rfl := hs.nR d0
      obtain rfl := hs.nO d1
      refine ⟨hs.keep, ?_⟩
      refine aRun [8, 9, 10, 11] 3 hs.keep ?_
      refine aO1 13 rfl (sN (hs.f d6) 0 [.slice a580 t579.1.Key.length p581, .int .i64 t579.1.Dir, .int .i64 t579.1.Seen.Top, .int .u64 t579.1.Seen.Bits, .string t579.1.Peer.Addr, .int .i64 t579.1.Peer.Seq] [.slice a580 t579.1.Key.length p581, .int .i64 t579.1.Dir, .int .i64 t579.1.Seen.Top, .int .u64 t579.1.Seen.Bits, .string t579.1.Peer.Addr, .int .i64 t579.1.Peer.Seq] (ones_of rfl) ?_)
      intro h hs
      refine ⟨hs.keep, ?_⟩
      refine aRun [14] 1 hs.keep ?_
      replace hs := hs.pk (.c d0 (.c d0 (.c d0 (.c d0 (.c d0 (.c d0 (.c d0 .n)))))))
      replace hs := bk0 hs (.s ct6) rfl
      refine aOL 15 rfl (owp_pure v588 (by kernel_rfl) ?_)
      refine aEnd ?_
      exact k_end ⟨t579.1.Key, t579.1.Dir, t579.1.Seen.Top, t579.1.Seen.Bits, t579.1.Peer.Addr, t579.1.Peer.Seq, t579.2.1, t579.2.2, b571, a580, p581, t579.1.Key.length, a584, p585, t579.2.1.length, v588, I, H, ⟨by kernel_rfl, by kernel_rfl, by kernel_rfl, by kernel_rfl, trivial⟩, hs.pk (.c d1 (.c d0 (.c d0 (.c d0 (.c d4 (.c d3 (.c d3 .n)))))))⟩
     ·replace hs := (hs.f d2)
      refine aA rfl (cvO (e := 5) hs ?_)
      intro I h hs
      refine ⟨hs.keep, ?_⟩
      replace hs := (hs.f d1)
      refine aRun [5] 10 hs.keep ?_
      refine aO1 2 rfl (cvO (e := 5) hs ?_)
      intro I h hs
      refine ⟨hs.keep, ?_⟩
      obtain ⟨hk, bk⟩ := hs.call tk0 (.c (qI d0) (.c (qI d1) .n))
      refine aO1 6 rfl (o_call H (fun _ m => shutterref19_Seal.calls m hk) ?_)
      rintro t590 _ h H ⟨I, _, ⟨a591, p592, n593, rfl, rfl⟩, hk⟩
      replace hs := bk hk ct1 rfl
      obtain rfl := hs.nO d0
      refine ⟨hs.keep, ?_⟩
      obtain ⟨hk, bk⟩ := hs.call tk0 (.c (qK d5) (.c (qO d0) .n))
      refine aO1 7 rfl (o_call H (fun _ m => roam_Gate_Come.calls m hk) ?_)
      rintro t595 _ h H ⟨I, _, ⟨a596, p597, n598, a600, p601, n602, v604, rfl, rfl⟩, hk⟩
      replace hs := bk hk ct3 rfl
      obtain rfl := hs.nR d0
      obtain rfl := hs.nO d1
      refine ⟨hs.keep, ?_⟩
      refine aRun [8, 9, 10, 11] 3 hs.keep ?_
      refine aO1 13 rfl (sN (hs.f d6) 0 [.slice a596 t595.1.Key.length p597, .int .i64 t595.1.Dir, .int .i64 t595.1.Seen.Top, .int .u64 t595.1.Seen.Bits, .string t595.1.Peer.Addr, .int .i64 t595.1.Peer.Seq] [.slice a596 t595.1.Key.length p597, .int .i64 t595.1.Dir, .int .i64 t595.1.Seen.Top, .int .u64 t595.1.Seen.Bits, .string t595.1.Peer.Addr, .int .i64 t595.1.Peer.Seq] (ones_of rfl) ?_)
      intro h hs
      refine ⟨hs.keep, ?_⟩
      refine aRun [14] 1 hs.keep ?_
      replace hs := hs.pk (.c d0 (.c d0 (.c d0 (.c d0 (.c d0 (.c d0 (.c d0 .n)))))))
      replace hs := bk0 hs (.s ct6) rfl
      refine aOL 15 rfl (owp_pure v604 (by kernel_rfl) ?_)
      refine aEnd ?_
      exact k_end ⟨t595.1.Key, t595.1.Dir, t595.1.Seen.Top, t595.1.Seen.Bits, t595.1.Peer.Addr, t595.1.Peer.Seq, t595.2.1, t595.2.2, b571, a596, p597, t595.1.Key.length, a600, p601, t595.2.1.length, v604, I, H, ⟨by kernel_rfl, by kernel_rfl, by kernel_rfl, by kernel_rfl, trivial⟩, hs.pk (.c d1 (.c d0 (.c d0 (.c d0 (.c d4 (.c d3 (.c d3 .n)))))))⟩
    ·replace hs := (hs.f d1)
     refine aA rfl (cvO (e := 5) hs ?_)
     intro I h hs
     refine ⟨hs.keep, ?_⟩
     refine aRun [5] 11 hs.keep ?_
     refine aO1 1 rfl (nS (e := 5) hs .i (tInt .u8) ([107] : List Int) [.int .u8 107] 1 (.int .u8 0) (Reps.int (I := (Cl.G .i E.B I)) (k := .u8) (l := [107])) ?_)
     intro b606 h hs
     refine ⟨hs.keep, ?_⟩
     refine aO1 2 rfl (cvO (e := 5) hs ?_)
     intro I h hs
     refine ⟨hs.keep, ?_⟩
     obtain ⟨hk, bk⟩ := hs.call tk0 (.c (qI d0) (.c (qI d1) .n))
     refine aO1 6 rfl (o_call H (fun _ m => shutterref19_Seal.calls m hk) ?_)
     rintro t608 _ h H ⟨I, _, ⟨a609, p610, n611, rfl, rfl⟩, hk⟩
     replace hs := bk hk ct1 rfl
     obtain rfl := hs.nO d0
     refine ⟨hs.keep, ?_⟩
     obtain ⟨hk, bk⟩ := hs.call tk0 (.c (qK d5) (.c (qO d0) .n))
     refine aO1 7 rfl (o_call H (fun _ m => roam_Gate_Come.calls m hk) ?_)
     rintro t613 _ h H ⟨I, _, ⟨a614, p615, n616, a618, p619, n620, v622, rfl, rfl⟩, hk⟩
     replace hs := bk hk ct3 rfl
     obtain rfl := hs.nR d0
     obtain rfl := hs.nO d1
     refine ⟨hs.keep, ?_⟩
     refine aRun [8, 9, 10, 11] 3 hs.keep ?_
     refine aO1 13 rfl (sN (hs.f d6) 0 [.slice a614 t613.1.Key.length p615, .int .i64 t613.1.Dir, .int .i64 t613.1.Seen.Top, .int .u64 t613.1.Seen.Bits, .string t613.1.Peer.Addr, .int .i64 t613.1.Peer.Seq] [.slice a614 t613.1.Key.length p615, .int .i64 t613.1.Dir, .int .i64 t613.1.Seen.Top, .int .u64 t613.1.Seen.Bits, .string t613.1.Peer.Addr, .int .i64 t613.1.Peer.Seq] (ones_of rfl) ?_)
     intro h hs
     refine ⟨hs.keep, ?_⟩
     refine aRun [14] 1 hs.keep ?_
     replace hs := hs.pk (.c d0 (.c d0 (.c d0 (.c d0 (.c d0 (.c d0 (.c d0 .n)))))))
     replace hs := bk0 hs (.s ct6) rfl
     refine aOL 15 rfl (owp_pure v622 (by kernel_rfl) ?_)
     refine aEnd ?_
     exact k_end ⟨t613.1.Key, t613.1.Dir, t613.1.Seen.Top, t613.1.Seen.Bits, t613.1.Peer.Addr, t613.1.Peer.Seq, t613.2.1, t613.2.2, b571, a614, p615, t613.1.Key.length, a618, p619, t613.2.1.length, v622, I, H, ⟨by kernel_rfl, by kernel_rfl, by kernel_rfl, by kernel_rfl, trivial⟩, hs.pk (.c d1 (.c d0 (.c d0 (.c d0 (.c d4 (.c d3 (.c d3 .n)))))))⟩
  ·refine aA rfl (nA hs [.slice none 0 0, .int .i64 0, .int .i64 0, .int .u64 0, .string (⟨#[]⟩ : ByteArray), .int .i64 0] (.agg #[.slice none 0 0, .int .i64 0, .int .i64 0, .int .u64 0, .string (⟨#[]⟩ : ByteArray), .int .i64 0]) ?_)
   intro b624 h hs
   refine ⟨hs.keep, ?_⟩
   refine aT2 1 3 ?_ ?_
   ·refine aA rfl (nS (e := 5) hs .i (tInt .u8) ([107] : List Int) [.int .u8 107] 1 (.int .u8 0) (Reps.int (I := (Cl.G .i E.B I)) (k := .u8) (l := [107])) ?_)
    intro b625 h hs
    refine ⟨hs.keep, ?_⟩
    refine aT2 2 3 ?_ ?_
    ·refine aA rfl (cvO (e := 5) hs ?_)
     intro I h hs
     refine ⟨hs.keep, ?_⟩
     refine aO1 3 rfl (nS (e := 5) hs .i (tInt .u8) ([98] : List Int) [.int .u8 98] 1 (.int .u8 0) (Reps.int (I := (Cl.G .i E.B I)) (k := .u8) (l := [98])) ?_)
     intro b627 h hs
     refine ⟨hs.keep, ?_⟩
     refine aO1 4 rfl (cvO (e := 5) hs ?_)
     intro I h hs
     refine ⟨hs.keep, ?_⟩
     refine aRun [5] 9 hs.keep ?_
     obtain ⟨hk, bk⟩ := hs.call tk0 (.c (qI d1) (.c (qI d0) .n))
     refine aO1 6 rfl (o_call H (fun _ m => shutterref19_Seal.calls m hk) ?_)
     rintro t629 _ h H ⟨I, _, ⟨a630, p631, n632, rfl, rfl⟩, hk⟩
     replace hs := bk hk ct1 rfl
     obtain rfl := hs.nO d0
     refine ⟨hs.keep, ?_⟩
     obtain ⟨hk, bk⟩ := hs.call tk0 (.c (qK d5) (.c (qO d0) .n))
     refine aO1 7 rfl (o_call H (fun _ m => roam_Gate_Come.calls m hk) ?_)
     rintro t634 _ h H ⟨I, _, ⟨a635, p636, n637, a639, p640, n641, v643, rfl, rfl⟩, hk⟩
     replace hs := bk hk ct3 rfl
     obtain rfl := hs.nR d0
     obtain rfl := hs.nO d1
     refine ⟨hs.keep, ?_⟩
     refine aRun [8, 9, 10, 11] 3 hs.keep ?_
     refine aO1 13 rfl (sN (hs.f d6) 0 [.slice a635 t634.1.Key.length p636, .int .i64 t634.1.Dir, .int .i64 t634.1.Seen.Top, .int .u64 t634.1.Seen.Bits, .string t634.1.Peer.Addr, .int .i64 t634.1.Peer.Seq] [.slice a635 t634.1.Key.length p636, .int .i64 t634.1.Dir, .int .i64 t634.1.Seen.Top, .int .u64 t634.1.Seen.Bits, .string t634.1.Peer.Addr, .int .i64 t634.1.Peer.Seq] (ones_of rfl) ?_)
     intro h hs
     refine ⟨hs.keep, ?_⟩
     refine aRun [14] 1 hs.keep ?_
     replace hs := hs.pk (.c d0 (.c d0 (.c d0 (.c d0 (.c d0 (.c d0 (.c d0 .n)))))))
     replace hs := bk0 hs (.s ct6) rfl
     refine aOL 15 rfl (owp_pure v643 (by kernel_rfl) ?_)
     refine aEnd ?_
     exact k_end ⟨t634.1.Key, t634.1.Dir, t634.1.Seen.Top, t634.1.Seen.Bits, t634.1.Peer.Addr, t634.1.Peer.Seq, t634.2.1, t634.2.2, b624, a635, p636, t634.1.Key.length, a639, p640, t634.2.1.length, v643, I, H, ⟨by kernel_rfl, by kernel_rfl, by kernel_rfl, by kernel_rfl, trivial⟩, hs.pk (.c d1 (.c d0 (.c d0 (.c d0 (.c d4 (.c d3 (.c d3 .n)))))))⟩
    ·refine aA rfl (nS (e := 5) hs .i (tInt .u8) ([98] : List Int) [.int .u8 98] 1 (.int .u8 0) (Reps.int (I := (Cl.G .i E.B I)) (k := .u8) (l := [98])) ?_)
     intro b645 h hs
     refine ⟨hs.keep, ?_⟩
     refine aT2 2 4 ?_ ?_
     ·replace hs := (hs.f d1)
      refine aA rfl (cvO (e := 5) hs ?_)
      intro I h hs
      refine ⟨hs.keep, ?_⟩
      replace hs := (hs.f d1)
      refine aO1 4 rfl (cvO (e := 5) hs ?_)
      intro I h hs
      refine ⟨hs.keep, ?_⟩
      refine aRun [5] 9 hs.keep ?_
      obtain ⟨hk, bk⟩ := hs.call tk0 (.c (qI d1) (.c (qI d0) .n))
      refine aO1 6 rfl (o_call H (fun _ m => shutterref19_Seal.calls m hk) ?_)
      rintro t647 _ h H ⟨I, _, ⟨a648, p649, n650, rfl, rfl⟩, hk⟩
      replace hs := bk hk ct1 rfl
      obtain rfl := hs.nO d0
      refine ⟨hs.keep, ?_⟩
      obtain ⟨hk, bk⟩ := hs.call tk0 (.c (qK d5) (.c (qO d0) .n))
      refine aO1 7 rfl (o_call H (fun _ m => roam_Gate_Come.calls m hk) ?_)
      rintro t652 _ h H ⟨I, _, ⟨a653, p654, n655, a657, p658, n659, v661, rfl, rfl⟩, hk⟩
      replace hs := bk hk ct3 rfl
      obtain rfl := hs.nR d0
      obtain rfl := hs.nO d1
      refine ⟨hs.keep, ?_⟩
      refine aRun [8, 9, 10, 11] 3 hs.keep ?_
      refine aO1 13 rfl (sN (hs.f d6) 0 [.slice a653 t652.1.Key.length p654, .int .i64 t652.1.Dir, .int .i64 t652.1.Seen.Top, .int .u64 t652.1.Seen.Bits, .string t652.1.Peer.Addr, .int .i64 t652.1.Peer.Seq] [.slice a653 t652.1.Key.length p654, .int .i64 t652.1.Dir, .int .i64 t652.1.Seen.Top, .int .u64 t652.1.Seen.Bits, .string t652.1.Peer.Addr, .int .i64 t652.1.Peer.Seq] (ones_of rfl) ?_)
      intro h hs
      refine ⟨hs.keep, ?_⟩
      refine aRun [14] 1 hs.keep ?_
      replace hs := hs.pk (.c d0 (.c d0 (.c d0 (.c d0 (.c d0 (.c d0 (.c d0 .n)))))))
      replace hs := bk0 hs (.s ct6) rfl
      refine aOL 15 rfl (owp_pure v661 (by kernel_rfl) ?_)
      refine aEnd ?_
      exact k_end ⟨t652.1.Key, t652.1.Dir, t652.1.Seen.Top, t652.1.Seen.Bits, t652.1.Peer.Addr, t652.1.Peer.Seq, t652.2.1, t652.2.2, b624, a653, p654, t652.1.Key.length, a657, p658, t652.2.1.length, v661, I, H, ⟨by kernel_rfl, by kernel_rfl, by kernel_rfl, by kernel_rfl, trivial⟩, hs.pk (.c d1 (.c d0 (.c d0 (.c d0 (.c d4 (.c d3 (.c d3 .n)))))))⟩
     ·refine aA rfl (cvO (e := 5) hs ?_)
      intro I h hs
      refine ⟨hs.keep, ?_⟩
      replace hs := (hs.f d1)
      refine aRun [5] 10 hs.keep ?_
      refine aO1 2 rfl (cvO (e := 5) hs ?_)
      intro I h hs
      refine ⟨hs.keep, ?_⟩
      obtain ⟨hk, bk⟩ := hs.call tk0 (.c (qI d0) (.c (qI d1) .n))
      refine aO1 6 rfl (o_call H (fun _ m => shutterref19_Seal.calls m hk) ?_)
      rintro t663 _ h H ⟨I, _, ⟨a664, p665, n666, rfl, rfl⟩, hk⟩
      replace hs := bk hk ct1 rfl
      obtain rfl := hs.nO d0
      refine ⟨hs.keep, ?_⟩
      obtain ⟨hk, bk⟩ := hs.call tk0 (.c (qK d5) (.c (qO d0) .n))
      refine aO1 7 rfl (o_call H (fun _ m => roam_Gate_Come.calls m hk) ?_)
      rintro t668 _ h H ⟨I, _, ⟨a669, p670, n671, a673, p674, n675, v677, rfl, rfl⟩, hk⟩
      replace hs := bk hk ct3 rfl
      obtain rfl := hs.nR d0
      obtain rfl := hs.nO d1
      refine ⟨hs.keep, ?_⟩
      refine aRun [8, 9, 10, 11] 3 hs.keep ?_
      refine aO1 13 rfl (sN (hs.f d6) 0 [.slice a669 t668.1.Key.length p670, .int .i64 t668.1.Dir, .int .i64 t668.1.Seen.Top, .int .u64 t668.1.Seen.Bits, .string t668.1.Peer.Addr, .int .i64 t668.1.Peer.Seq] [.slice a669 t668.1.Key.length p670, .int .i64 t668.1.Dir, .int .i64 t668.1.Seen.Top, .int .u64 t668.1.Seen.Bits, .string t668.1.Peer.Addr, .int .i64 t668.1.Peer.Seq] (ones_of rfl) ?_)
      intro h hs
      refine ⟨hs.keep, ?_⟩
      refine aRun [14] 1 hs.keep ?_
      replace hs := hs.pk (.c d0 (.c d0 (.c d0 (.c d0 (.c d0 (.c d0 (.c d0 .n)))))))
      replace hs := bk0 hs (.s ct6) rfl
      refine aOL 15 rfl (owp_pure v677 (by kernel_rfl) ?_)
      refine aEnd ?_
      exact k_end ⟨t668.1.Key, t668.1.Dir, t668.1.Seen.Top, t668.1.Seen.Bits, t668.1.Peer.Addr, t668.1.Peer.Seq, t668.2.1, t668.2.2, b624, a669, p670, t668.1.Key.length, a673, p674, t668.2.1.length, v677, I, H, ⟨by kernel_rfl, by kernel_rfl, by kernel_rfl, by kernel_rfl, trivial⟩, hs.pk (.c d1 (.c d0 (.c d0 (.c d0 (.c d4 (.c d3 (.c d3 .n)))))))⟩
   ·refine aA rfl (nS (e := 5) hs .i (tInt .u8) ([98] : List Int) [.int .u8 98] 1 (.int .u8 0) (Reps.int (I := (Cl.G .i E.B I)) (k := .u8) (l := [98])) ?_)
    intro b679 h hs
    refine ⟨hs.keep, ?_⟩
    refine aT2 1 4 ?_ ?_
    ·refine aA rfl (nS (e := 5) hs .i (tInt .u8) ([107] : List Int) [.int .u8 107] 1 (.int .u8 0) (Reps.int (I := (Cl.G .i E.B I)) (k := .u8) (l := [107])) ?_)
     intro b681 h hs
     refine ⟨hs.keep, ?_⟩
     refine aT2 2 4 ?_ ?_
     ·refine aA rfl (cvO (e := 5) hs ?_)
      intro I h hs
      refine ⟨hs.keep, ?_⟩
      replace hs := (hs.f d1)
      refine aO1 4 rfl (cvO (e := 5) hs ?_)
      intro I h hs
      refine ⟨hs.keep, ?_⟩
      refine aRun [5] 9 hs.keep ?_
      obtain ⟨hk, bk⟩ := hs.call tk0 (.c (qI d1) (.c (qI d0) .n))
      refine aO1 6 rfl (o_call H (fun _ m => shutterref19_Seal.calls m hk) ?_)
      rintro t683 _ h H ⟨I, _, ⟨a684, p685, n686, rfl, rfl⟩, hk⟩
      replace hs := bk hk ct1 rfl
      obtain rfl := hs.nO d0
      refine ⟨hs.keep, ?_⟩
      obtain ⟨hk, bk⟩ := hs.call tk0 (.c (qK d5) (.c (qO d0) .n))
      refine aO1 7 rfl (o_call H (fun _ m => roam_Gate_Come.calls m hk) ?_)
      rintro t688 _ h H ⟨I, _, ⟨a689, p690, n691, a693, p694, n695, v697, rfl, rfl⟩, hk⟩
      replace hs := bk hk ct3 rfl
      obtain rfl := hs.nR d0
      obtain rfl := hs.nO d1
      refine ⟨hs.keep, ?_⟩
      refine aRun [8, 9, 10, 11] 3 hs.keep ?_
      refine aO1 13 rfl (sN (hs.f d6) 0 [.slice a689 t688.1.Key.length p690, .int .i64 t688.1.Dir, .int .i64 t688.1.Seen.Top, .int .u64 t688.1.Seen.Bits, .string t688.1.Peer.Addr, .int .i64 t688.1.Peer.Seq] [.slice a689 t688.1.Key.length p690, .int .i64 t688.1.Dir, .int .i64 t688.1.Seen.Top, .int .u64 t688.1.Seen.Bits, .string t688.1.Peer.Addr, .int .i64 t688.1.Peer.Seq] (ones_of rfl) ?_)
      intro h hs
      refine ⟨hs.keep, ?_⟩
      refine aRun [14] 1 hs.keep ?_
      replace hs := hs.pk (.c d0 (.c d0 (.c d0 (.c d0 (.c d0 (.c d0 (.c d0 .n)))))))
      replace hs := bk0 hs (.s ct6) rfl
      refine aOL 15 rfl (owp_pure v697 (by kernel_rfl) ?_)
      refine aEnd ?_
      exact k_end ⟨t688.1.Key, t688.1.Dir, t688.1.Seen.Top, t688.1.Seen.Bits, t688.1.Peer.Addr, t688.1.Peer.Seq, t688.2.1, t688.2.2, b624, a689, p690, t688.1.Key.length, a693, p694, t688.2.1.length, v697, I, H, ⟨by kernel_rfl, by kernel_rfl, by kernel_rfl, by kernel_rfl, trivial⟩, hs.pk (.c d1 (.c d0 (.c d0 (.c d0 (.c d4 (.c d3 (.c d3 .n)))))))⟩
     ·replace hs := (hs.f d1)
      refine aA rfl (cvO (e := 5) hs ?_)
      intro I h hs
      refine ⟨hs.keep, ?_⟩
      replace hs := (hs.f d1)
      refine aRun [5] 10 hs.keep ?_
      refine aO1 2 rfl (cvO (e := 5) hs ?_)
      intro I h hs
      refine ⟨hs.keep, ?_⟩
      obtain ⟨hk, bk⟩ := hs.call tk0 (.c (qI d0) (.c (qI d1) .n))
      refine aO1 6 rfl (o_call H (fun _ m => shutterref19_Seal.calls m hk) ?_)
      rintro t699 _ h H ⟨I, _, ⟨a700, p701, n702, rfl, rfl⟩, hk⟩
      replace hs := bk hk ct1 rfl
      obtain rfl := hs.nO d0
      refine ⟨hs.keep, ?_⟩
      obtain ⟨hk, bk⟩ := hs.call tk0 (.c (qK d5) (.c (qO d0) .n))
      refine aO1 7 rfl (o_call H (fun _ m => roam_Gate_Come.calls m hk) ?_)
      rintro t704 _ h H ⟨I, _, ⟨a705, p706, n707, a709, p710, n711, v713, rfl, rfl⟩, hk⟩
      replace hs := bk hk ct3 rfl
      obtain rfl := hs.nR d0
      obtain rfl := hs.nO d1
      refine ⟨hs.keep, ?_⟩
      refine aRun [8, 9, 10, 11] 3 hs.keep ?_
      refine aO1 13 rfl (sN (hs.f d6) 0 [.slice a705 t704.1.Key.length p706, .int .i64 t704.1.Dir, .int .i64 t704.1.Seen.Top, .int .u64 t704.1.Seen.Bits, .string t704.1.Peer.Addr, .int .i64 t704.1.Peer.Seq] [.slice a705 t704.1.Key.length p706, .int .i64 t704.1.Dir, .int .i64 t704.1.Seen.Top, .int .u64 t704.1.Seen.Bits, .string t704.1.Peer.Addr, .int .i64 t704.1.Peer.Seq] (ones_of rfl) ?_)
      intro h hs
      refine ⟨hs.keep, ?_⟩
      refine aRun [14] 1 hs.keep ?_
      replace hs := hs.pk (.c d0 (.c d0 (.c d0 (.c d0 (.c d0 (.c d0 (.c d0 .n)))))))
      replace hs := bk0 hs (.s ct6) rfl
      refine aOL 15 rfl (owp_pure v713 (by kernel_rfl) ?_)
      refine aEnd ?_
      exact k_end ⟨t704.1.Key, t704.1.Dir, t704.1.Seen.Top, t704.1.Seen.Bits, t704.1.Peer.Addr, t704.1.Peer.Seq, t704.2.1, t704.2.2, b624, a705, p706, t704.1.Key.length, a709, p710, t704.2.1.length, v713, I, H, ⟨by kernel_rfl, by kernel_rfl, by kernel_rfl, by kernel_rfl, trivial⟩, hs.pk (.c d1 (.c d0 (.c d0 (.c d0 (.c d4 (.c d3 (.c d3 .n)))))))⟩
    ·refine aA rfl (cvO (e := 5) hs ?_)
     intro I h hs
     refine ⟨hs.keep, ?_⟩
     refine aRun [5] 11 hs.keep ?_
     refine aO1 1 rfl (nS (e := 5) hs .i (tInt .u8) ([107] : List Int) [.int .u8 107] 1 (.int .u8 0) (Reps.int (I := (Cl.G .i E.B I)) (k := .u8) (l := [107])) ?_)
     intro b715 h hs
     refine ⟨hs.keep, ?_⟩
     refine aO1 2 rfl (cvO (e := 5) hs ?_)
     intro I h hs
     refine ⟨hs.keep, ?_⟩
     obtain ⟨hk, bk⟩ := hs.call tk0 (.c (qI d0) (.c (qI d1) .n))
     refine aO1 6 rfl (o_call H (fun _ m => shutterref19_Seal.calls m hk) ?_)
     rintro t717 _ h H ⟨I, _, ⟨a718, p719, n720, rfl, rfl⟩, hk⟩
     replace hs := bk hk ct1 rfl
     obtain rfl := hs.nO d0
     refine ⟨hs.keep, ?_⟩
     obtain ⟨hk, bk⟩ := hs.call tk0 (.c (qK d5) (.c (qO d0) .n))
     refine aO1 7 rfl (o_call H (fun _ m => roam_Gate_Come.calls m hk) ?_)
     rintro t722 _ h H ⟨I, _, ⟨a723, p724, n725, a727, p728, n729, v731, rfl, rfl⟩, hk⟩
     replace hs := bk hk ct3 rfl
     obtain rfl := hs.nR d0
     obtain rfl := hs.nO d1
     refine ⟨hs.keep, ?_⟩
     refine aRun [8, 9, 10, 11] 3 hs.keep ?_
     refine aO1 13 rfl (sN (hs.f d6) 0 [.slice a723 t722.1.Key.length p724, .int .i64 t722.1.Dir, .int .i64 t722.1.Seen.Top, .int .u64 t722.1.Seen.Bits, .string t722.1.Peer.Addr, .int .i64 t722.1.Peer.Seq] [.slice a723 t722.1.Key.length p724, .int .i64 t722.1.Dir, .int .i64 t722.1.Seen.Top, .int .u64 t722.1.Seen.Bits, .string t722.1.Peer.Addr, .int .i64 t722.1.Peer.Seq] (ones_of rfl) ?_)
     intro h hs
     refine ⟨hs.keep, ?_⟩
     refine aRun [14] 1 hs.keep ?_
     replace hs := hs.pk (.c d0 (.c d0 (.c d0 (.c d0 (.c d0 (.c d0 (.c d0 .n)))))))
     replace hs := bk0 hs (.s ct6) rfl
     refine aOL 15 rfl (owp_pure v731 (by kernel_rfl) ?_)
     refine aEnd ?_
     exact k_end ⟨t722.1.Key, t722.1.Dir, t722.1.Seen.Top, t722.1.Seen.Bits, t722.1.Peer.Addr, t722.1.Peer.Seq, t722.2.1, t722.2.2, b624, a723, p724, t722.1.Key.length, a727, p728, t722.2.1.length, v731, I, H, ⟨by kernel_rfl, by kernel_rfl, by kernel_rfl, by kernel_rfl, trivial⟩, hs.pk (.c d1 (.c d0 (.c d0 (.c d0 (.c d4 (.c d3 (.c d3 .n)))))))⟩
 ·clear H
  rintro ρ h ⟨x734, x739, x740, x741, x742, x743, x744, x749, b733, a735, p736, n737, a745, p746, n747, v750, I, H, hf, hs⟩
  refine k_fits _ hf ?_ rfl
  subst e878
  try dsimp only at H
  obtain rfl := hs.nR d0
  obtain rfl := hs.nO d2
  refine st 1 [] ?_
  obtain ⟨j851, e877, H⟩ := letJ_some H
  refine k_join (fun ρ h => ∃ (x838 : List Int) (x843 : Int) (x844 : Int) (x845 : Int) (x846 : ByteArray) (x847 : Int) (x848 : GoErr) (b837 : Nat) (a839 : Option Addr) (p840 : Nat) (n841 : Nat) (v849 : Value) (I : Gh), j851 x838 x843 x844 x845 x846 x847 x848 = some r ∧ Fits [(1, .pointer (some ⟨b23, 0, none⟩)), (2, .pointer (some ⟨b733, 0, none⟩)), (3, .slice a745 x744.length p746), (4, v750), (5, .pointer (some ⟨b837, 0, none⟩)), (7, v849)] ρ ∧ St E [rO (tInt .u8) .i a745 p746 x744.length x744, rE .i v750 x749, rR (tInt .u8) .i a839 p840 n841 x838, rB b837 [.slice a839 n841 p840, .int .i64 x843, .int .i64 x844, .int .u64 x845, .string x846, .int .i64 x847] 63, rE .i v849 x848, rR (tInt .u8) .i (some ⟨b21, 0, none⟩) 1 1 [107], rB b23 [.slice (some ⟨b21, 0, none⟩) 1 1, .int .i64 0, .int .i64 0, .int .u64 0, .string (⟨#[]⟩ : ByteArray), .int .i64 0] 63, rR (tInt .u8) .i a735 p736 x734.length x734, rB b733 [.slice a735 x734.length p736, .int .i64 x739, .int .i64 x740, .int .u64 x741, .string x742, .int .i64 x743] 63, rG] I h) ?_ ?_
  ·obtain ⟨hs0, bk0⟩ := hs.call tk0 (.c (qL d1) (.c (qK d0) .n))
   have hs := hs0
   refine k_regD hs0 13 ?_
   refine aG 0 rfl hs.keep (lls hs0 d0 0 6 rfl) (nmL hs0 d0) ?_
   refine aRun [3] 12 hs.keep ?_
   refine aT2 1 10 ?_ ?_
   ·refine aA rfl (nS (e := 5) hs .i (tInt .u8) ([107] : List Int) [.int .u8 107] 1 (.int .u8 0) (Reps.int (I := (Cl.G .i E.B I)) (k := .u8) (l := [107])) ?_)
    intro b753 h hs
    refine ⟨hs.keep, ?_⟩
    refine aT2 2 10 ?_ ?_
    ·refine aA rfl (cvO (e := 5) hs ?_)
     intro I h hs
     refine ⟨hs.keep, ?_⟩
     refine aT2 4 10 ?_ ?_
     ·obtain ⟨hk, bk⟩ := hs.call tk0 (.c (qI d0) (.c qN .n))
      refine aA rfl (o_call H (fun _ m => shutterref19_Seal.calls m hk) ?_)
      rintro t755 _ h H ⟨I, _, ⟨a756, p757, n758, rfl, rfl⟩, hk⟩
      replace hs := bk hk ct1 rfl
      obtain rfl := hs.nO d0
      refine ⟨hs.keep, ?_⟩
      refine aT2 5 10 ?_ ?_
      ·obtain ⟨hk, bk⟩ := hs.call tk0 (.c (qK d3) (.c (qO d0) .n))
       refine aA rfl (o_call H (fun _ m => roam_Gate_Come.calls m hk) ?_)
       rintro t760 _ h H ⟨I, _, ⟨a761, p762, n763, a765, p766, n767, v769, rfl, rfl⟩, hk⟩
       replace hs := bk hk ct3 rfl
       obtain rfl := hs.nR d0
       obtain rfl := hs.nO d1
       refine ⟨hs.keep, ?_⟩
       refine aRun [6, 7, 8, 9] 4 hs.keep ?_
       refine aO1 10 rfl (nA hs [.slice none 0 0, .int .i64 0, .int .i64 0, .int .u64 0, .string (⟨#[]⟩ : ByteArray), .int .i64 0] (.agg #[.slice none 0 0, .int .i64 0, .int .i64 0, .int .u64 0, .string (⟨#[]⟩ : ByteArray), .int .i64 0]) ?_)
       intro b771 h hs
       refine ⟨hs.keep, ?_⟩
       refine aO1 11 rfl (sN hs 0 [.slice a761 t760.1.Key.length p762, .int .i64 t760.1.Dir, .int .i64 t760.1.Seen.Top, .int .u64 t760.1.Seen.Bits, .string t760.1.Peer.Addr, .int .i64 t760.1.Peer.Seq] [.slice a761 t760.1.Key.length p762, .int .i64 t760.1.Dir, .int .i64 t760.1.Seen.Top, .int .u64 t760.1.Seen.Bits, .string t760.1.Peer.Addr, .int .i64 t760.1.Peer.Seq] (ones_of rfl) ?_)
       intro h hs
       refine ⟨hs.keep, ?_⟩
       refine aRun [12] 1 hs.keep ?_
       replace hs := hs.pk (.c d0 (.c d0 (.c d0 (.c d0 (.c d0 (.c d0 .n))))))
       replace hs := bk0 hs ct6 rfl
       refine aOL 13 rfl (owp_pure v769 (by kernel_rfl) ?_)
       refine aEnd ?_
       exact k_end ⟨t760.1.Key, t760.1.Dir, t760.1.Seen.Top, t760.1.Seen.Bits, t760.1.Peer.Addr, t760.1.Peer.Seq, t760.2.2, b771, a761, p762, t760.1.Key.length, v769, I, H, ⟨by kernel_rfl, by kernel_rfl, by kernel_rfl, by kernel_rfl, by kernel_rfl, by kernel_rfl, trivial⟩, hs.pk (.c d8 (.c d8 (.c d1 (.c d0 (.c d1 (.c d5 (.c d5 (.c d3 (.c d3 (.c d3 .n))))))))))⟩
      ·refine aA rfl (nA hs [.slice none 0 0, .int .i64 0, .int .i64 0, .int .u64 0, .string (⟨#[]⟩ : ByteArray), .int .i64 0] (.agg #[.slice none 0 0, .int .i64 0, .int .i64 0, .int .u64 0, .string (⟨#[]⟩ : ByteArray), .int .i64 0]) ?_)
       intro b772 h hs
       refine ⟨hs.keep, ?_⟩
       obtain ⟨hk, bk⟩ := hs.call tk0 (.c (qK d4) (.c (qO d1) .n))
       refine aO1 5 rfl (o_call H (fun _ m => roam_Gate_Come.calls m hk) ?_)
       rintro t773 _ h H ⟨I, _, ⟨a774, p775, n776, a778, p779, n780, v782, rfl, rfl⟩, hk⟩
       replace hs := bk hk ct3 rfl
       obtain rfl := hs.nR d0
       obtain rfl := hs.nO d1
       refine ⟨hs.keep, ?_⟩
       refine aRun [6, 7, 8, 9] 3 hs.keep ?_
       refine aO1 11 rfl (sN (hs.f d3) 0 [.slice a774 t773.1.Key.length p775, .int .i64 t773.1.Dir, .int .i64 t773.1.Seen.Top, .int .u64 t773.1.Seen.Bits, .string t773.1.Peer.Addr, .int .i64 t773.1.Peer.Seq] [.slice a774 t773.1.Key.length p775, .int .i64 t773.1.Dir, .int .i64 t773.1.Seen.Top, .int .u64 t773.1.Seen.Bits, .string t773.1.Peer.Addr, .int .i64 t773.1.Peer.Seq] (ones_of rfl) ?_)
       intro h hs
       refine ⟨hs.keep, ?_⟩
       refine aRun [12] 1 hs.keep ?_
       replace hs := hs.pk (.c d0 (.c d0 (.c d0 (.c d0 (.c d0 (.c d0 .n))))))
       replace hs := bk0 hs ct6 rfl
       refine aOL 13 rfl (owp_pure v782 (by kernel_rfl) ?_)
       refine aEnd ?_
       exact k_end ⟨t773.1.Key, t773.1.Dir, t773.1.Seen.Top, t773.1.Seen.Bits, t773.1.Peer.Addr, t773.1.Peer.Seq, t773.2.2, b772, a774, p775, t773.1.Key.length, v782, I, H, ⟨by kernel_rfl, by kernel_rfl, by kernel_rfl, by kernel_rfl, by kernel_rfl, by kernel_rfl, trivial⟩, hs.pk (.c d8 (.c d8 (.c d1 (.c d0 (.c d1 (.c d5 (.c d5 (.c d3 (.c d3 (.c d3 .n))))))))))⟩
     ·refine aA rfl (nA hs [.slice none 0 0, .int .i64 0, .int .i64 0, .int .u64 0, .string (⟨#[]⟩ : ByteArray), .int .i64 0] (.agg #[.slice none 0 0, .int .i64 0, .int .i64 0, .int .u64 0, .string (⟨#[]⟩ : ByteArray), .int .i64 0]) ?_)
      intro b784 h hs
      refine ⟨hs.keep, ?_⟩
      obtain ⟨hk, bk⟩ := hs.call tk0 (.c (qI d1) (.c qN .n))
      refine aO1 4 rfl (o_call H (fun _ m => shutterref19_Seal.calls m hk) ?_)
      rintro t785 _ h H ⟨I, _, ⟨a786, p787, n788, rfl, rfl⟩, hk⟩
      replace hs := bk hk ct1 rfl
      obtain rfl := hs.nO d0
      refine ⟨hs.keep, ?_⟩
      obtain ⟨hk, bk⟩ := hs.call tk0 (.c (qK d4) (.c (qO d0) .n))
      refine aO1 5 rfl (o_call H (fun _ m => roam_Gate_Come.calls m hk) ?_)
      rintro t790 _ h H ⟨I, _, ⟨a791, p792, n793, a795, p796, n797, v799, rfl, rfl⟩, hk⟩
      replace hs := bk hk ct3 rfl
      obtain rfl := hs.nR d0
      obtain rfl := hs.nO d1
      refine ⟨hs.keep, ?_⟩
      refine aRun [6, 7, 8, 9] 3 hs.keep ?_
      refine aO1 11 rfl (sN (hs.f d4) 0 [.slice a791 t790.1.Key.length p792, .int .i64 t790.1.Dir, .int .i64 t790.1.Seen.Top, .int .u64 t790.1.Seen.Bits, .string t790.1.Peer.Addr, .int .i64 t790.1.Peer.Seq] [.slice a791 t790.1.Key.length p792, .int .i64 t790.1.Dir, .int .i64 t790.1.Seen.Top, .int .u64 t790.1.Seen.Bits, .string t790.1.Peer.Addr, .int .i64 t790.1.Peer.Seq] (ones_of rfl) ?_)
      intro h hs
      refine ⟨hs.keep, ?_⟩
      refine aRun [12] 1 hs.keep ?_
      replace hs := hs.pk (.c d0 (.c d0 (.c d0 (.c d0 (.c d0 (.c d0 .n))))))
      replace hs := bk0 hs ct6 rfl
      refine aOL 13 rfl (owp_pure v799 (by kernel_rfl) ?_)
      refine aEnd ?_
      exact k_end ⟨t790.1.Key, t790.1.Dir, t790.1.Seen.Top, t790.1.Seen.Bits, t790.1.Peer.Addr, t790.1.Peer.Seq, t790.2.2, b784, a791, p792, t790.1.Key.length, v799, I, H, ⟨by kernel_rfl, by kernel_rfl, by kernel_rfl, by kernel_rfl, by kernel_rfl, by kernel_rfl, trivial⟩, hs.pk (.c d8 (.c d8 (.c d1 (.c d0 (.c d1 (.c d5 (.c d5 (.c d3 (.c d3 (.c d3 .n))))))))))⟩
    ·refine aA rfl (nA hs [.slice none 0 0, .int .i64 0, .int .i64 0, .int .u64 0, .string (⟨#[]⟩ : ByteArray), .int .i64 0] (.agg #[.slice none 0 0, .int .i64 0, .int .i64 0, .int .u64 0, .string (⟨#[]⟩ : ByteArray), .int .i64 0]) ?_)
     intro b801 h hs
     refine ⟨hs.keep, ?_⟩
     replace hs := (hs.f d1)
     refine aO1 2 rfl (cvO (e := 5) hs ?_)
     intro I h hs
     refine ⟨hs.keep, ?_⟩
     obtain ⟨hk, bk⟩ := hs.call tk0 (.c (qI d0) (.c qN .n))
     refine aO1 4 rfl (o_call H (fun _ m => shutterref19_Seal.calls m hk) ?_)
     rintro t802 _ h H ⟨I, _, ⟨a803, p804, n805, rfl, rfl⟩, hk⟩
     replace hs := bk hk ct1 rfl
     obtain rfl := hs.nO d0
     refine ⟨hs.keep, ?_⟩
     obtain ⟨hk, bk⟩ := hs.call tk0 (.c (qK d4) (.c (qO d0) .n))
     refine aO1 5 rfl (o_call H (fun _ m => roam_Gate_Come.calls m hk) ?_)
     rintro t807 _ h H ⟨I, _, ⟨a808, p809, n810, a812, p813, n814, v816, rfl, rfl⟩, hk⟩
     replace hs := bk hk ct3 rfl
     obtain rfl := hs.nR d0
     obtain rfl := hs.nO d1
     refine ⟨hs.keep, ?_⟩
     refine aRun [6, 7, 8, 9] 3 hs.keep ?_
     refine aO1 11 rfl (sN (hs.f d5) 0 [.slice a808 t807.1.Key.length p809, .int .i64 t807.1.Dir, .int .i64 t807.1.Seen.Top, .int .u64 t807.1.Seen.Bits, .string t807.1.Peer.Addr, .int .i64 t807.1.Peer.Seq] [.slice a808 t807.1.Key.length p809, .int .i64 t807.1.Dir, .int .i64 t807.1.Seen.Top, .int .u64 t807.1.Seen.Bits, .string t807.1.Peer.Addr, .int .i64 t807.1.Peer.Seq] (ones_of rfl) ?_)
     intro h hs
     refine ⟨hs.keep, ?_⟩
     refine aRun [12] 1 hs.keep ?_
     replace hs := hs.pk (.c d0 (.c d0 (.c d0 (.c d0 (.c d0 (.c d0 .n))))))
     replace hs := bk0 hs ct6 rfl
     refine aOL 13 rfl (owp_pure v816 (by kernel_rfl) ?_)
     refine aEnd ?_
     exact k_end ⟨t807.1.Key, t807.1.Dir, t807.1.Seen.Top, t807.1.Seen.Bits, t807.1.Peer.Addr, t807.1.Peer.Seq, t807.2.2, b801, a808, p809, t807.1.Key.length, v816, I, H, ⟨by kernel_rfl, by kernel_rfl, by kernel_rfl, by kernel_rfl, by kernel_rfl, by kernel_rfl, trivial⟩, hs.pk (.c d8 (.c d8 (.c d1 (.c d0 (.c d1 (.c d5 (.c d5 (.c d3 (.c d3 (.c d3 .n))))))))))⟩
   ·refine aA rfl (nA hs [.slice none 0 0, .int .i64 0, .int .i64 0, .int .u64 0, .string (⟨#[]⟩ : ByteArray), .int .i64 0] (.agg #[.slice none 0 0, .int .i64 0, .int .i64 0, .int .u64 0, .string (⟨#[]⟩ : ByteArray), .int .i64 0]) ?_)
    intro b818 h hs
    refine ⟨hs.keep, ?_⟩
    refine aO1 1 rfl (nS (e := 5) hs .i (tInt .u8) ([107] : List Int) [.int .u8 107] 1 (.int .u8 0) (Reps.int (I := (Cl.G .i E.B I)) (k := .u8) (l := [107])) ?_)
    intro b819 h hs
    refine ⟨hs.keep, ?_⟩
    refine aO1 2 rfl (cvO (e := 5) hs ?_)
    intro I h hs
    refine ⟨hs.keep, ?_⟩
    obtain ⟨hk, bk⟩ := hs.call tk0 (.c (qI d0) (.c qN .n))
    refine aO1 4 rfl (o_call H (fun _ m => shutterref19_Seal.calls m hk) ?_)
    rintro t821 _ h H ⟨I, _, ⟨a822, p823, n824, rfl, rfl⟩, hk⟩
    replace hs := bk hk ct1 rfl
    obtain rfl := hs.nO d0
    refine ⟨hs.keep, ?_⟩
    obtain ⟨hk, bk⟩ := hs.call tk0 (.c (qK d4) (.c (qO d0) .n))
    refine aO1 5 rfl (o_call H (fun _ m => roam_Gate_Come.calls m hk) ?_)
    rintro t826 _ h H ⟨I, _, ⟨a827, p828, n829, a831, p832, n833, v835, rfl, rfl⟩, hk⟩
    replace hs := bk hk ct3 rfl
    obtain rfl := hs.nR d0
    obtain rfl := hs.nO d1
    refine ⟨hs.keep, ?_⟩
    refine aRun [6, 7, 8, 9] 3 hs.keep ?_
    refine aO1 11 rfl (sN (hs.f d5) 0 [.slice a827 t826.1.Key.length p828, .int .i64 t826.1.Dir, .int .i64 t826.1.Seen.Top, .int .u64 t826.1.Seen.Bits, .string t826.1.Peer.Addr, .int .i64 t826.1.Peer.Seq] [.slice a827 t826.1.Key.length p828, .int .i64 t826.1.Dir, .int .i64 t826.1.Seen.Top, .int .u64 t826.1.Seen.Bits, .string t826.1.Peer.Addr, .int .i64 t826.1.Peer.Seq] (ones_of rfl) ?_)
    intro h hs
    refine ⟨hs.keep, ?_⟩
    refine aRun [12] 1 hs.keep ?_
    replace hs := hs.pk (.c d0 (.c d0 (.c d0 (.c d0 (.c d0 (.c d0 .n))))))
    replace hs := bk0 hs ct6 rfl
    refine aOL 13 rfl (owp_pure v835 (by kernel_rfl) ?_)
    refine aEnd ?_
    exact k_end ⟨t826.1.Key, t826.1.Dir, t826.1.Seen.Top, t826.1.Seen.Bits, t826.1.Peer.Addr, t826.1.Peer.Seq, t826.2.2, b818, a827, p828, t826.1.Key.length, v835, I, H, ⟨by kernel_rfl, by kernel_rfl, by kernel_rfl, by kernel_rfl, by kernel_rfl, by kernel_rfl, trivial⟩, hs.pk (.c d8 (.c d8 (.c d1 (.c d0 (.c d1 (.c d5 (.c d5 (.c d3 (.c d3 (.c d3 .n))))))))))⟩
  ·clear H
   rintro ρ h ⟨x838, x843, x844, x845, x846, x847, x848, b837, a839, p840, n841, v849, I, H, hf, hs⟩
   refine k_fits _ hf ?_ rfl
   subst e877
   try dsimp only at H
   obtain rfl := hs.nR d2
   refine st 2 [] (k_op (lN (hs.bl d3) 0 6 ?_))
   refine k_op (nS (e := 5) hs .i (tInt .u8) ([110, 111] : List Int) [.int .u8 110, .int .u8 111] 1 (.int .u8 0) (Reps.int (I := (Cl.G .i E.B I)) (k := .u8) (l := [110, 111])) ?_)
   intro b852 h hs
   refine k_op (cvO (e := 5) hs ?_)
   intro I h hs
   obtain ⟨hk, bk⟩ := hs.call tk0 (.c (qK d3) (.c (qI d0) .n))
   refine k_call H (fun _ m => roam_Gate_Come.calls m hk) ?_
   rintro t854 _ h H ⟨I, _, ⟨a855, p856, n857, a859, p860, n861, v863, rfl, rfl⟩, hk⟩
   replace hs := bk hk ct3 rfl
   obtain rfl := hs.nR d0
   obtain rfl := hs.nO d1
   refine st 4 [] (k_op (nA hs [.slice none 0 0, .int .i64 0, .int .i64 0, .int .u64 0, .string (⟨#[]⟩ : ByteArray), .int .i64 0] (.agg #[.slice none 0 0, .int .i64 0, .int .i64 0, .int .u64 0, .string (⟨#[]⟩ : ByteArray), .int .i64 0]) ?_))
   intro b865 h hs
   refine k_op (sN hs 0 [.slice a855 t854.1.Key.length p856, .int .i64 t854.1.Dir, .int .i64 t854.1.Seen.Top, .int .u64 t854.1.Seen.Bits, .string t854.1.Peer.Addr, .int .i64 t854.1.Peer.Seq] [.slice a855 t854.1.Key.length p856, .int .i64 t854.1.Dir, .int .i64 t854.1.Seen.Top, .int .u64 t854.1.Seen.Bits, .string t854.1.Peer.Addr, .int .i64 t854.1.Peer.Seq] (ones_of rfl) ?_)
   intro h hs
   rcases (hs.er d6).cases with ⟨c866, rfl⟩ | ⟨c866, t867, u868, rfl⟩
   ·rw [if_pos c866] at H
    refine st 9 [] (k_op (cvS (e := 5) (hs.sO d5) ?_))
    rcases bool_or ((strOf x744) == (⟨#[98]⟩ : ByteArray)) with c869 | c869
    ·replace H := bif_f c869 H
     refine k_op (owp_run (.bool false) (run_bool (run_eqStr (by kernel_rfl) (by kernel_rfl)) c869) ?_)
     refine st 27 [] ?_
     refine k_retQ ?_
     obtain rfl := Option.some.inj H
     exact ⟨_, by kernel_rfl, I, _, ⟨rfl, rfl⟩, hs.pk .n⟩
    ·replace H := bif_t c869 H
     refine k_op (owp_run (.bool true) (run_bool (run_eqStr (by kernel_rfl) (by kernel_rfl)) c869) ?_)
     refine st 2 [] (k_op (lN (hs.bl d13) 0 6 ?_))
     obtain ⟨hk, bk⟩ := hs.call tk0 (.c (qI d12) .n)
     refine k_call H (fun _ m => roam_Gate_Known.calls m hk) ?_
     rintro t870 _ h H ⟨I, _, ⟨rfl, rfl⟩, hk⟩
     replace hs := bk hk ct0 rfl
     cases t870
     ·rw [cond_false] at H
      refine st 23 [] ?_
      refine k_retQ ?_
      obtain rfl := Option.some.inj H
      exact ⟨_, by kernel_rfl, I, _, ⟨rfl, rfl⟩, hs.pk .n⟩
     ·rw [cond_true] at H
      refine st 2 [] (k_op (lN (hs.bl d11) 0 6 ?_))
      obtain ⟨hk, bk⟩ := hs.call tk0 (.c (qI d10) .n)
      refine k_call H (fun _ m => roam_Gate_Known.calls m hk) ?_
      rintro t871 _ h H ⟨I, _, ⟨rfl, rfl⟩, hk⟩
      replace hs := bk hk ct0 rfl
      cases t871
      ·rw [cond_false] at H
       rcases (hs.er d9).cases with ⟨c872, rfl⟩ | ⟨c872, t873, u874, rfl⟩
       ·rw [if_pos c872] at H
        refine st 8 [] (k_op (lN (hs.bl d8) 4 2 ?_))
        rcases bool_or ((x846 == (⟨#[120]⟩ : ByteArray)) && ((x847 == 3) && true)) with c875 | c875
        ·replace H := bif_f c875 H
         refine st 1 [] (k_op (owp_run (.bool false) (run_bool (run_eqAgg (xs := #[.string x846, .int .i64 x847]) (ys := #[.string (⟨#[120]⟩ : ByteArray), .int .i64 3]) (by kernel_rfl) (by kernel_rfl) (by kernel_rfl) (eqB_run (b := ((x846 == (⟨#[120]⟩ : ByteArray)) && ((x847 == 3) && true))) (by kernel_rfl))) c875) ?_))
         refine st 8 [] ?_
         refine k_retQ ?_
         obtain rfl := Option.some.inj H
         exact ⟨_, by kernel_rfl, I, _, ⟨rfl, rfl⟩, hs.pk .n⟩
        ·replace H := bif_t c875 H
         refine st 1 [] (k_op (owp_run (.bool true) (run_bool (run_eqAgg (xs := #[.string x846, .int .i64 x847]) (ys := #[.string (⟨#[120]⟩ : ByteArray), .int .i64 3]) (by kernel_rfl) (by kernel_rfl) (by kernel_rfl) (eqB_run (b := ((x846 == (⟨#[120]⟩ : ByteArray)) && ((x847 == 3) && true))) (by kernel_rfl))) c875) ?_))
         obtain ⟨hk, bk⟩ := hs.call tk0 (.c (xI d3) (.c (gK d14) .n))
         refine st 3 [] (k_call H (fun _ m => api_Code.calls m hk) ?_)
         rintro t876 _ h H ⟨I, _, ⟨rfl, rfl⟩, hk⟩
         replace hs := bk hk ct0 rfl
         refine st 4 [] ?_
         refine k_retQ ?_
         obtain rfl := Option.some.inj H
         exact ⟨_, by kernel_rfl, I, _, ⟨rfl, rfl⟩, hs.pk .n⟩
       ·rw [if_neg c872] at H
        refine st 19 [] ?_
        refine k_retQ ?_
        obtain rfl := Option.some.inj H
        exact ⟨_, by kernel_rfl, I, _, ⟨rfl, rfl⟩, hs.pk .n⟩
      ·rw [cond_true] at H
       refine st 19 [] ?_
       refine k_retQ ?_
       obtain rfl := Option.some.inj H
       exact ⟨_, by kernel_rfl, I, _, ⟨rfl, rfl⟩, hs.pk .n⟩
   ·rw [if_neg c866] at H
    refine st 38 [] ?_
    refine k_retQ ?_
    obtain rfl := Option.some.inj H
    exact ⟨_, by kernel_rfl, I, _, ⟨rfl, rfl⟩, hs.pk .n⟩

end Go.Proofs.YtpkcckaaocannaaDoor.Sx
