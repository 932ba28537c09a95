/-
  gimletlaw15.whole; gimletref12.Heavy of a small bound.
-/
import Derived.Test.YtgjokdngbocehaaGreatDoorHsA
import Derived.Test.YtgjokdngbocehaaGreatDoorHsD
import Derived.Test.YtgjokdngbocehaaGreatDoorHsE
import Derived.Test.YtgjokdngbocehaaGreatDoorHsN
import Derived.Test.YtgjokdngbocehaaGreatDoorHsU
import Derived.Test.YtgjokdngbocehaaGreatDoorHsZE
import Derived.Test.YtgjokdngbocehaaGreatDoorHsZF
import Derived.Test.YtgjokdngbocehaaGreatDoorHsZG
import Derived.Test.YtgjokdngbocehaaGreatDoorHsZI
import Derived.Test.YtgjokdngbocehaaGreatDoorHsZJ
import Derived.Test.YtgjokdngbocehaaGreatDoorHsZK
import Derived.Test.YtgjokdngbocehaaGreatDoorHsZL
namespace Go.Proofs.YtgjokdngbocehaaGreatDoor
open Go.RowKit
set_option maxRecDepth 100000 in
set_option maxHeartbeats 4000000 in
theorem heavyN_any {f:Nat} (a:Option Addr) (c:Nat) (ss:List PS) (k:Int) (w:World) (hk0:0 ≤ k) (hk:k ≤ 65536) (hs:SsAt f w a ss) (hn:ss.length ≤ 1048576) :
  Calls Tryz.prog 22 #[.agg #[.slice a ss.length c],.int .i64 k] w fun e w'=>SomeB e ∧ Below w.heap.size w w':=by
 have hb0:Below w.heap.size w (w.alloc (.cells #[.slice a ss.length c] 25)):=(Below.refl _ _).alloc (Nat.le_refl _) _
 have HB0:=Lib.hid hb0
 have HR:=Lib.hid (work_all f a c ss (k + 1) _ (SsAt.below hs hb0) hn)
 have ewk:IntKind.i64.wrap (k + 1) = k + 1:=IntWalk.i64_in _ (by omega)
 clear hs hb0
 generalize ss.length = n at *
 generalize wkL (woN f) (k + 1) 0 ss = z at *
 go_enter Tryz.func22,Tryz.ntmps22
 go_wp2_with fail
 (with_reducible refine HR.out.mono ?_)
 rintro e w2 ⟨rfl,hb2⟩
 have HB2:=Lib.hid (HB0.out.trans (hb2.mono HB0.out.size))
 clear hb2
 go_wp2_with fail
 go_ret
 exact ⟨⟨_,rfl⟩,HB2.out⟩
end Go.Proofs.YtgjokdngbocehaaGreatDoor
namespace Go.Proofs.YtgjokdngbocehaaGreatDoor
open Go.RowKit
def frHS (eb eo n c:Nat) (pa:Option Addr) (m pc P3:Nat) (t:Array Value):Array Value :=
 #[.slice (some ⟨eb,eo,none⟩) n c,.agg #[.slice pa m pc],slotOfH t 2,.pointer (some ⟨P3,0,none⟩),slotOfH t 4,slotOfH t 5,slotOfH t 6,slotOfH t 7,slotOfH t 8,slotOfH t 9,slotOfH t 10,slotOfH t 11,slotOfH t 12,slotOfH t 13,slotOfH t 14,slotOfH t 15,slotOfH t 16,slotOfH t 17,slotOfH t 18,slotOfH t 19,slotOfH t 20,slotOfH t 21,slotOfH t 22,slotOfH t 23,slotOfH t 24,slotOfH t 25,slotOfH t 26,slotOfH t 27,slotOfH t 28,slotOfH t 29,slotOfH t 30,slotOfH t 31,slotOfH t 32,slotOfH t 33,slotOfH t 34,slotOfH t 35,slotOfH t 36,slotOfH t 37,slotOfH t 38,slotOfH t 39,slotOfH t 40,slotOfH t 41,slotOfH t 42,slotOfH t 43,slotOfH t 44,slotOfH t 45,slotOfH t 46,slotOfH t 47,slotOfH t 48,slotOfH t 49,slotOfH t 50,slotOfH t 51,slotOfH t 52,slotOfH t 53,slotOfH t 54,slotOfH t 55,slotOfH t 56,slotOfH t 57,slotOfH t 58,slotOfH t 59,slotOfH t 60,slotOfH t 61,slotOfH t 62,slotOfH t 63,slotOfH t 64,slotOfH t 65,slotOfH t 66,slotOfH t 67,slotOfH t 68,slotOfH t 69,slotOfH t 70,slotOfH t 71,slotOfH t 72,slotOfH t 73,slotOfH t 74,slotOfH t 75,slotOfH t 76,slotOfH t 77,slotOfH t 78,slotOfH t 79,slotOfH t 80,slotOfH t 81,slotOfH t 82,slotOfH t 83,slotOfH t 84,slotOfH t 85,slotOfH t 86,slotOfH t 87,slotOfH t 88,slotOfH t 89,slotOfH t 90,slotOfH t 91,slotOfH t 92,slotOfH t 93,slotOfH t 94,slotOfH t 95,slotOfH t 96,slotOfH t 97,slotOfH t 98,slotOfH t 99,slotOfH t 100,slotOfH t 101,slotOfH t 102,slotOfH t 103,slotOfH t 104,slotOfH t 105,slotOfH t 106,slotOfH t 107,slotOfH t 108]
set_option maxRecDepth 1000000 in
set_option maxHeartbeats 16000000 in
theorem halfStays_of {f:Nat} (hf:f ≤ 1048576) (a:Option Addr) (n c:Nat) (evs:List Ev) (pa:Option Addr) (pc:Nat) (ss:List PS) (w:World) (hE:EnvT w) (hev:EvsAt w a n evs) (hw:wtEs evs ≤ 1048576) (hx:SsAt f w pa ss) (hpl:ss.length ≤ 1048576) (hnc:n ≤ c) :
  Calls Tryz.prog 6 #[.slice a n c,.agg #[.slice pa ss.length pc]] w fun e w'=>e = .returned (.bool true) ∧ Below w.heap.size w w':=by
 have hn:n ≤ 1048576:=by have:=wtEs_length evs;have:=hev.1;omega
 obtain ⟨W0,hW0⟩:∃ W0,W0 = w.alloc (.cells #[.slice pa ss.length pc] 25):=⟨_,rfl⟩
 have hb0:Below w.heap.size w W0:=by rw [hW0];exact (Below.refl w.heap.size w).alloc (Nat.le_refl _) _
 have hsz0:W0.heap.size = w.heap.size + 1:=by rw [hW0];simp
 have hk4:W0.heap[w.heap.size]? = some (.cells #[.slice pa ss.length pc] 25 (0,0)):=by rw [hW0];exact heap_alloc_new w _
 have HKS:Hid (∀ W,Below W0.heap.size W0 W → W.cell? ⟨w.heap.size,0,none⟩ = some (.slice pa ss.length pc)):=Lib.hid fun W hW=>by rw [cell_heap ((hW.block w.heap.size (by omega)).trans hk4)];rfl
 have FIN:Hid (∀ W,Below W0.heap.size W0 W → Below w.heap.size w W):=Lib.hid fun W hW=>hb0.trans (hW.mono hb0.size)
 have HAW:Hid (∀ W,Below W0.heap.size W0 W → Calls Tryz.prog 8 #[] W fun e w'=>e = .returned (.bool true) ∧ Below W.heap.size W w'):=Lib.hid fun W hW=>awake15_any W (hE.below (FIN.out W hW))
 have HBQ:Hid (∀ W,Below W0.heap.size W0 W → BegQ W a n evs):=Lib.hid fun W hW=>⟨hev.below (FIN.out W hW),hn,evsSmH hw,hw,(hE.below (FIN.out W hW)).rng,(hE.below (FIN.out W hW)).tab⟩
 have HGR:Hid (Calls Tryz.prog 20 #[.agg #[.slice pa ss.length pc]] W0 fun e w'=>∃ g,e = .returned (.bool g) ∧ Below W0.heap.size W0 w'):=Lib.hid (great_any pa pc ss W0 (SsAt.below hx hb0) hpl)
 have HWH:Hid (∀ W,Below W0.heap.size W0 W → Calls Tryz.prog 21 #[.slice a n c,.agg #[.slice pa ss.length pc]] W fun e w'=>∃ b,e = .returned (.bool b) ∧ (b = true → wholeB evs = true ∧ n ≤ 120 ∧ checkN f ss = 0) ∧ Below W.heap.size W w'):=Lib.hid fun W hW=>whole15_any hf a n c evs pa pc ss W (HBQ.out W hW) (SsAt.below hx (FIN.out W hW)) hpl
 have HHV:Hid (∀ (k:Int) W,0 ≤ k → k ≤ 65536 → Below W0.heap.size W0 W → Calls Tryz.prog 22 #[.agg #[.slice pa ss.length pc],.int .i64 k] W fun e w'=>SomeB e ∧ Below W.heap.size W w'):=Lib.hid fun k W h1 h2 hW=>heavyN_any pa pc ss k W h1 h2 (SsAt.below hx (FIN.out W hW)) hpl
 have HBT:Hid (∀ k W,k ≤ n → Below W0.heap.size W0 W → BegQ W a k (evs.take k)):=Lib.hid fun k W hk hW=>by
  have h:=HBQ.out W hW
  have hl:=hev.1
  refine ⟨⟨by rw [List.length_take];omega,fun i hi=>?_⟩,by omega,fun e he=>h.sm e (List.mem_of_mem_take he),?_,h.rng,h.tab⟩
  ·have hi2:i < evs.length:=by rw [List.length_take] at hi;omega
   rw [List.getElem_take]
   exact h.at'.2 i hi2
  ·have h1:=wtEs_sub evs 0 k
   rw [List.drop_zero] at h1
   exact Nat.le_trans h1 h.wt
 have HVF:Hid (∀ k W,k ≤ n → Below W0.heap.size W0 W → Calls Tryz.prog 10 #[.slice a k k,.agg #[.slice pa ss.length pc]] W fun e w'=>∃ A cc,e = .returned (.tuple #[.slice A (verdN f (evs.take k) ss).1.length cc,.int .i64 (verdN f (evs.take k) ss).2]) ∧ VdAt w' A (verdN f (evs.take k) ss).1.length (verdN f (evs.take k) ss).1 ∧ Below W.heap.size W w'):=Lib.hid fun k W hk hW=>(verdH_any hf a k k (evs.take k) pa pc ss W (HBT.out k W hk hW) (SsAt.below hx (FIN.out W hW)) hpl).mono fun e w' ⟨A,cc,h1,_,h3,h4⟩=>⟨A,cc,h1,h3,h4⟩
 have HTF:Hid (∀ k W,k ≤ n → Below W0.heap.size W0 W → Calls Tryz.prog 18 #[.slice a k k,.agg #[.slice pa ss.length pc]] W fun e w'=>∃ A cc,e = .returned (.tuple #[.slice A (toldN f (evs.take k) ss).1.length cc,.int .i64 (toldN f (evs.take k) ss).2]) ∧ ItAt w' A (toldN f (evs.take k) ss).1.length (toldN f (evs.take k) ss).1 ∧ Below W.heap.size W w'):=Lib.hid fun k W hk hW=>(toldH_any hf a k k (evs.take k) pa pc ss W (HBT.out k W hk hW) (SsAt.below hx (FIN.out W hW)) hpl (Nat.le_refl _)).mono fun e w' ⟨A,cc,h1,_,h3,h4⟩=>⟨A,cc,h1,h3,h4⟩
 have HST:Hid (wholeB evs = true → checkN f ss = 0 → ∀ k,k ≤ n → StayK f evs ss k):=Lib.hid fun hwh hc k hk=>by
  obtain ⟨st,hst,_⟩:=wholeB_some hwh
  have hg:=checkN_goodP hc
  unfold goodPB at hg
  rw [Bool.and_eq_true] at hg
  exact stay_all hst hc (List.all_eq_true.1 hg.2) k (by have:=hev.1;omega)
 have HNE:Hid (wholeB evs = true → ∃ eb eo,a = some ⟨eb,eo,none⟩ ∧ ∀ k (hk:k < evs.length) W,Below w.heap.size w W → W.cell? ⟨eb,eo + k * 8,none⟩ = some (.int .i64 evs[k].kind)):=Lib.hid fun hwh=>by
  obtain ⟨st,_,hne,_⟩:=wholeB_some hwh
  obtain ⟨b,o,A,m,c',e,hb,_,_,hc⟩:=hev.at8 0 (List.length_pos_iff.2 hne)
  refine ⟨b,o,e,fun k hk W hW=>?_⟩
  obtain ⟨b',o',A',m',c'',e',hb',_,_,hc'⟩:=hev.at8 k hk
  rw [e] at e'
  cases e'
  exact (hc' W hW).1
 have HNL:Hid (n = evs.length):=Lib.hid hev.1
 have HNC:=Lib.hid hnc
 have HW0E:=Lib.hid hW0
 clear hW0 hb0 hsz0 hk4 hE hev hw hx hpl hnc
 obtain ⟨m,hm⟩:∃ m,ss.length = m:=⟨_,rfl⟩
 rw [hm] at HKS HGR HWH HVF HTF HW0E HHV
 rw [hm]
 clear hm
 have p0:=HKS.out W0 (Below.refl _ _)
 go_enter Tryz.func6,Tryz.ntmps6
 go_wp2_with fail
 rw [← HW0E.out]
 (with_reducible refine HGR.out.mono ?_)
 rintro e w1 ⟨g,rfl,hb1⟩
 have HB1:=Lib.hid hb1
 clear hb1 p0
 have p0:=HKS.out w1 HB1.out
 have HA1:=Lib.hid (HAW.out w1 HB1.out)
 cases g with
 | true =>
  go_wp2_with fail
  (with_reducible refine HA1.out.mono ?_)
  rintro e w2 ⟨rfl,hb⟩
  have HB2:=Lib.hid (HB1.out.trans (hb.mono HB1.out.size))
  clear hb
  go_wp2_with fail
  go_ret
  exact ⟨rfl,FIN.out _ HB2.out⟩
 | false =>
 go_wp2_with fail
 (with_reducible refine HA1.out.mono ?_)
 rintro e w2 ⟨rfl,hb⟩
 have HB2:=Lib.hid (HB1.out.trans (hb.mono HB1.out.size))
 clear hb p0
 have p0:=HKS.out w2 HB2.out
 have HW2:=Lib.hid (HWH.out w2 HB2.out)
 go_wp2_with fail
 (with_reducible refine HW2.out.mono ?_)
 rintro e w3 ⟨b,rfl,hwb,hb⟩
 have HB3:=Lib.hid (HB2.out.trans (hb.mono HB2.out.size))
 have HWB:=Lib.hid hwb
 clear hb p0 hwb
 cases b with
 | false =>
  go_wp2_with fail
  go_ret
  exact ⟨rfl,FIN.out _ HB3.out⟩
 | true =>
 obtain ⟨hwh,h120,hc0⟩:=HWB.out rfl
 have HSK:=Lib.hid (HST.out hwh hc0)
 obtain ⟨eb,eo,rfl,hek⟩:=HNE.out hwh
 have HEK:=Lib.hid hek
 clear hwh hc0 hek HWB HST HNE
 have p0:=HKS.out w3 HB3.out
 by_cases hn60:(60:Int) < (n:Int)
 ·go_wp2_with fail
  go_ret
  exact ⟨rfl,FIN.out _ HB3.out⟩
 have hn60':(n:Int) ≤ 60:=by omega
 have HHV3:=Lib.hid (HHV.out (4 * (n:Int)) w3 (by omega) (by omega) HB3.out)
 have ew4:IntKind.i64.wrap (4 * (n:Int)) = 4 * (n:Int):=IntWalk.i64_in _ (by omega)
 clear hn60
 go_wp2_with fail
 (with_reducible refine HHV3.out.mono ?_)
 rintro e w4 ⟨⟨b4,rfl⟩,hb⟩
 have HB4:=Lib.hid (HB3.out.trans (hb.mono HB3.out.size))
 clear hb p0 ew4 HHV3
 cases b4 with
 | true =>
  go_wp2_with fail
  go_ret
  exact ⟨rfl,FIN.out _ HB4.out⟩
 | false =>
 have hnc:(n:Int) ≤ (c:Int):=by have:=HNC.out;omega
 obtain ⟨P3,hP3⟩:∃ P3,w.heap.size = P3:=⟨_,rfl⟩
 have HP3:=Lib.hid hP3
 rw [hP3] at HKS
 go_wp2_with fail
 clear hP3
 refine wp_loop_ghost (fun kk a1 wr=>∃ (k:Nat) (A B:Option Addr) (ca cb:Nat),slotOfH a1.tmps 5 = .slice A (VVk f evs ss k).length ca ∧ slotOfH a1.tmps 6 = .slice B (TTk f evs ss k).length cb ∧ slotOfH a1.tmps 7 = .int .i64 (cntT evs (k - 1):Nat) ∧ slotOfH a1.tmps 8 = .int .i64 (k:Nat) ∧ k ≤ n + 1 ∧ kk = n + 1 - k ∧ Hid (Below W0.heap.size W0 wr ∧ VdAt wr A (VVk f evs ss k).length (VVk f evs ss k) ∧ ItAt wr B (TTk f evs ss k).length (TTk f evs ss k)) ∧ a1 = { tmps:=frHS eb eo n c pa m pc P3 a1.tmps,defers:=[] }) (n + 1) ?atStart ?round
 case atStart=>exact ⟨0,none,none,0,0,rfl,rfl,rfl,rfl,Nat.zero_le _,rfl,Lib.hid ⟨HB4.out,⟨rfl,fun i h=>absurd h (Nat.not_lt_zero _)⟩,⟨rfl,fun i h=>absurd h (Nat.not_lt_zero _)⟩⟩,rfl⟩
 case round =>
  rintro mk ⟨t,dd⟩ wq ⟨k,A,B,ca,cb,h5,h6,h7,h8,hkn,rfl,HQ,ha⟩
  obtain ⟨ha1,ha2⟩:=Act.mk.inj ha
  subst dd
  rw [ha1]
  clear ha ha1
  dsimp only [frHS] at h5 h6 h7 h8 ⊢
  rw [h5,h6,h7,h8]
  clear h5 h6 h7 h8
  by_cases hk:k ≤ n
  rotate_left
  ·have hk':(n:Int) < (k:Int):=by omega
   have HQW:=Lib.hid HQ.out.1
   go_wp2_with fail
   go_ret
   exact ⟨rfl,FIN.out _ HQW.out⟩
  have hk':(k:Int) ≤ (n:Int):=by omega
  have HKL:=Lib.hid (HSK.out k hk)
  have hvl:=HKL.out.vl
  have htl:=HKL.out.tl
  have hct:=cntT_le evs (k - 1)
  obtain ⟨FR,hFR⟩:∃ FR:Int,((cntT evs (k - 1):Nat):Int) = FR:=⟨_,rfl⟩
  have HFR:=Lib.hid hFR
  have hFb:0 ≤ FR ∧ FR ≤ 120:=by rw [← hFR];omega
  rw [hFR]
  have hTV:(TTk f evs ss k).length ≤ (toldN f (evs.take k) ss).1.length:=HKL.out.pre.length_le
  have HV5:=Lib.hid (HVF.out k)
  have HT5:=Lib.hid (HTF.out k)
  rw [HKL.out.v0] at HV5
  rw [HKL.out.t0] at HT5
  obtain ⟨V1,hV1⟩:∃ V1,VVk f evs ss k = V1:=⟨_,rfl⟩
  obtain ⟨V2,hV2⟩:∃ V2,(verdN f (evs.take k) ss).1 = V2:=⟨_,rfl⟩
  obtain ⟨T1,hT1⟩:∃ T1,TTk f evs ss k = T1:=⟨_,rfl⟩
  obtain ⟨T2,hT2⟩:∃ T2,(toldN f (evs.take k) ss).1 = T2:=⟨_,rfl⟩
  have hpre:=HKL.out.pre
  have hyes:=HKL.out.yes
  have hno:=HKL.out.no
  have hris:=HKL.out.ris
  have hris':=HKL.out.ris'
  rw [hV1] at HQ hyes hno hris'
  rw [hV2] at HV5 hvl hyes hno hris
  rw [hT1] at HQ hTV hpre
  rw [hT2] at HT5 htl hTV hpre
  have HV2:Hid (VVk f evs ss (k + 1) = V2):=Lib.hid hV2
  have HT2:Hid (TTk f evs ss (k + 1) = T2):=Lib.hid hT2
  have HPRE:=Lib.hid hpre
  have HV1L:Hid (V1.length ≤ 130):=Lib.hid (by
   rw [← hV1]
   unfold VVk
   split
   ·exact Nat.zero_le _
   ·have:=(HSK.out (k - 1) (by omega)).vl;omega)
  have HGO:Hid (∀ W A' B' ca' cb',VdAt W A' V1.length V1 → VdAt W B' V2.length V2 → Calls Tryz.prog 23 #[.slice A' V1.length ca',.slice B' V2.length cb',.int .i64 FR] W fun e w'=>e = .returned (.bool true) ∧ Below W.heap.size W w'):=Lib.hid fun W A' B' ca' cb' h1 h2 =>
   goesOn_any A' B' V1.length V2.length ca' cb' _ _ _ _ FR W (vf_of h1) (vf_of h2) (by have:=HV1L.out;omega) (by omega) (yes_fun hyes) (no_fun (by rw [← hFR];exact hno)) (ris_fun hris') (ris_fun hris)
  rw [hV1,hT1]
  have ik0:(0:Int) ≤ (k:Int):=by omega
  have ikc:(k:Int) ≤ (c:Int):=by omega
  have ikk:(k:Int) ≤ (k:Int):=by omega
  have ewk:IntKind.i64.wrap ((k:Int) + 1) = (k:Int) + 1:=IntWalk.i64_in _ (by omega)
  have hT1b:T1.length ≤ 130:=by omega
  clear hFR hV1 hV2 hT1 hT2 hpre hyes hno hris hris' hct HKL
  have HX:Hid (k = 0 ∨ ∃ j,k = j + 1):=Lib.hid (by cases k with | zero=>exact .inl rfl | succ j=>exact .inr ⟨j,rfl⟩)
  obtain ⟨X7,hX7⟩:∃ X7:Int,((cntT evs k:Nat):Int) = X7:=⟨_,rfl⟩
  have HX7:=Lib.hid hX7
  by_cases hk0:k = 0
  ·have hx:X7 = FR:=by rw [← hX7,← HFR.out,hk0]
   have hk1:(k:Int) ≤ 0:=by omega
   have HSL:Hid (Value.int .i64 FR = Value.int .i64 ((cntT evs (k + 1 - 1):Nat):Int)):=Lib.hid (by rw [← hx,← HX7.out];rfl)
   clear hk0 hX7 hx
   go_upto_region 16 with fail
   have p0:=HKS.out wq HQ.out.1
   have HDR:=(Below.refl wq.heap.size wq).drew
   have HS:Hid (∀ W,Below wq.heap.size wq W → W.cell? ⟨P3,0,none⟩ = some (.slice pa m pc) ∧ Below wq.heap.size wq W):=Lib.hid fun W hW=>⟨HKS.out W (HQ.out.1.trans (hW.mono HQ.out.1.size)),hW⟩
   have HPK:Hid (∀ W,Below wq.heap.size wq W → Calls Tryz.prog 10 #[.slice (some ⟨eb,eo,none⟩) k k,.agg #[.slice pa m pc]] W fun e w'=>∃ A' cc,e = .returned (.tuple #[.slice A' V2.length cc,.int .i64 0]) ∧ VdAt w' A' V2.length V2 ∧ Below wq.heap.size wq w'):=Lib.hid fun W hW=>(HV5.out W hk (HQ.out.1.trans (hW.mono HQ.out.1.size))).mono fun e w' ⟨A',cc,h1,h2,h3⟩=>⟨A',cc,h1,h2,hW.trans (h3.mono hW.size)⟩
   go_region_held3 (fun w'=>w'.cell? ⟨P3,0,none⟩ = some (.slice pa m pc) ∧ Below wq.heap.size wq w') (first | exact HS.out _ ‹_› | exact HS.out _ HDR) (first | (go_at_call 10;(with_reducible refine (HPK.out _ ‹_›).mono ?_);rintro e w5 ⟨A',cc',rfl,hvd,hb5⟩))
   have HB5:=Lib.hid (HQ.out.1.trans (hb5.mono HQ.out.1.size))
   have HVD:=Lib.hid hvd
   have HQ5:Hid (VdAt w5 A V1.length V1 ∧ ItAt w5 B T1.length T1):=Lib.hid ⟨HQ.out.2.1.below hb5,HQ.out.2.2.below hb5⟩
   clear hvd hb5 HS HPK HDR p0
   have p0:=HKS.out w5 HB5.out
   have HDR:=(Below.refl w5.heap.size w5).drew
   have HS:Hid (∀ W,Below w5.heap.size w5 W → W.cell? ⟨P3,0,none⟩ = some (.slice pa m pc) ∧ Below w5.heap.size w5 W):=Lib.hid fun W hW=>⟨HKS.out W (HB5.out.trans (hW.mono HB5.out.size)),hW⟩
   have HPK:Hid (∀ W,Below w5.heap.size w5 W → Calls Tryz.prog 18 #[.slice (some ⟨eb,eo,none⟩) k k,.agg #[.slice pa m pc]] W fun e w'=>∃ A' cc,e = .returned (.tuple #[.slice A' T2.length cc,.int .i64 0]) ∧ ItAt w' A' T2.length T2 ∧ Below w5.heap.size w5 w'):=Lib.hid fun W hW=>(HT5.out W hk (HB5.out.trans (hW.mono HB5.out.size))).mono fun e w' ⟨A',cc,h1,h2,h3⟩=>⟨A',cc,h1,h2,hW.trans (h3.mono hW.size)⟩
   go_upto_region 17 with fail
   go_region_held3 (fun w'=>w'.cell? ⟨P3,0,none⟩ = some (.slice pa m pc) ∧ Below w5.heap.size w5 w') (first | exact HS.out _ ‹_› | exact HS.out _ HDR) (first | (go_at_call 18;(with_reducible refine (HPK.out _ ‹_›).mono ?_);rintro e w6 ⟨B',cb',rfl,hit,hb6⟩))
   have HB6:=Lib.hid (HB5.out.trans (hb6.mono HB5.out.size))
   have HIT:=Lib.hid hit
   have HVD6:=Lib.hid (HVD.out.below hb6)
   have HQ6:Hid (VdAt w6 A V1.length V1 ∧ ItAt w6 B T1.length T1):=Lib.hid ⟨HQ5.out.1.below hb6,HQ5.out.2.below hb6⟩
   clear hit hb6 HS HPK HDR p0 HVD HQ5 HV5 HT5
   obtain ⟨l1,hl1⟩:∃ l1,T1.length = l1:=⟨_,rfl⟩
   obtain ⟨l2,hl2⟩:∃ l2,T2.length = l2:=⟨_,rfl⟩
   have HL1:=Lib.hid hl1
   have HL2:=Lib.hid hl2
   have HTI:=Lib.hid HQ6.out.2
   have HIT2:=Lib.hid HIT.out
   rw [hl1] at HTI hTV hT1b
   rw [hl2] at HIT2 hTV
   have hll:(l1:Int) ≤ (l2:Int):=by omega
   rw [hl1,hl2]
   clear hl1 hl2
   go_wp2_with fail
   go_loopw [14] (fun iv wr=>∃ i:Nat,iv = .int .i64 i ∧ i ≤ l1 ∧ Below w6.heap.size w6 wr) (fun iv _=>l1 - (intOf iv).toNat)
   case atStart=>exact ⟨0,rfl,Nat.zero_le _,Below.refl _ _⟩
   case round =>
    obtain ⟨i,rfl,hi,HM0⟩:=hrel
    have HMM:=Lib.hid HM0
    clear HM0
    by_cases hin:i < l1
    ·have hil:i < T1.length:=by rw [HL1.out];exact hin
     have hil2:i < T2.length:=by rw [HL2.out];omega
     have hsame:T2[i] = T1[i]:=(HPRE.out.getElem hil).symm
     obtain ⟨ba,oa,rfl,_,x0,x1⟩:=(HTI.out.below HMM.out).2 i hil
     obtain ⟨bb,ob,rfl,_,y0,y1⟩:=(HIT2.out.below HMM.out).2 i hil2
     rw [hsame] at y0 y1
     have j1:(0:Int) ≤ (i:Int):=by omega
     have j2:(i:Int) < (l1:Int):=by omega
     have j3:(i:Int) < (l2:Int):=by omega
     have ewi:IntKind.i64.wrap ((i:Int) + 1) = (i:Int) + 1:=IntWalk.i64_in _ (by omega)
     generalize T1[i]'hil = u at *
     obtain ⟨u1,u2⟩:=u
     simp only at x0 x1 y0 y1
     generalize strL u2 = sv at *
     have t1:(sv.toList == sv.toList) = true:=by simp
     clear hsame hil hil2
     go_wp2_with fail
     go_quiet (fail)
     go_wp2_with fail
     go_roundw
     case rel=>exact ⟨i + 1,by go_num,by omega,Below.drewN HMM.out _⟩
     case measure=>simp [intOf];omega
    ·have hi2:(l1:Int) ≤ (i:Int):=by omega
     have HG:=Lib.hid (HGO.out wr A A' ca cc' (HQ6.out.1.below HMM.out) (HVD6.out.below HMM.out))
     go_wp2_with fail
     (with_reducible refine HG.out.mono ?_)
     rintro e w8 ⟨rfl,hb8⟩
     have HB8:=Lib.hid (HMM.out.trans (hb8.mono HMM.out.size))
     clear hb8
     go_wp2_with fail
     have HK1:Hid (Value.int .i64 ((k:Int) + 1) = Value.int .i64 ((k + 1:Nat):Int)):=Lib.hid (by rw [show ((k + 1:Nat):Int) = (k:Int) + 1 from rfl])
     refine ⟨n + 1 - (k + 1),by omega,k + 1,A',B',cc',cb',?_,?_,?_,HK1.out,by omega,rfl,Lib.hid ?_,rfl⟩
     ·rw [HV2.out];rfl
     ·rw [HT2.out,HL2.out];rfl
     ·exact HSL.out
     ·rw [HV2.out,HT2.out]
      exact ⟨HB6.out.trans (HB8.out.mono HB6.out.size),HVD6.out.below HB8.out,HIT.out.below HB8.out⟩
  obtain ⟨j,rfl⟩:∃ j,k = j + 1:=⟨k - 1,by omega⟩
  have hjl:j < evs.length:=by have:=HNL.out;omega
  have e0:=HEK.out j hjl wq (FIN.out wq HQ.out.1)
  have hcs:=cntT_succ evs j hjl
  have hkp:(0:Int) < ((j + 1:Nat):Int):=by omega
  have ewj:IntKind.i64.wrap (((j + 1:Nat):Int) - 1) = (j:Int):=by rw [IntWalk.i64_in _ (by omega)];omega
  have i1:(0:Int) ≤ (j:Int):=by omega
  have i2:(j:Int) < (n:Int):=by omega
  have hF2:FR = ((cntT evs j:Nat):Int):=HFR.out.symm
  by_cases h2:evs[j].kind = 2
  ·rw [h2] at e0
   have HSL:Hid (Value.int .i64 FR = Value.int .i64 ((cntT evs (j + 1 + 1 - 1):Nat):Int)):=Lib.hid (by
    show _ = Value.int .i64 ((cntT evs (j + 1):Nat):Int)
    rw [hcs,if_pos h2,hF2];rfl)
   clear hcs h2 hk0 hX7 hF2
   generalize j + 1 = k at *
   go_upto_region 16 with fail
   (try clear t2 t2' ewf)
   clear e0 ewj i1 i2 hkp hjl
   have p0:=HKS.out wq HQ.out.1
   have HDR:=(Below.refl wq.heap.size wq).drew
   have HS:Hid (∀ W,Below wq.heap.size wq W → W.cell? ⟨P3,0,none⟩ = some (.slice pa m pc) ∧ Below wq.heap.size wq W):=Lib.hid fun W hW=>⟨HKS.out W (HQ.out.1.trans (hW.mono HQ.out.1.size)),hW⟩
   have HPK:Hid (∀ W,Below wq.heap.size wq W → Calls Tryz.prog 10 #[.slice (some ⟨eb,eo,none⟩) k k,.agg #[.slice pa m pc]] W fun e w'=>∃ A' cc,e = .returned (.tuple #[.slice A' V2.length cc,.int .i64 0]) ∧ VdAt w' A' V2.length V2 ∧ Below wq.heap.size wq w'):=Lib.hid fun W hW=>(HV5.out W hk (HQ.out.1.trans (hW.mono HQ.out.1.size))).mono fun e w' ⟨A',cc,h1,h2,h3⟩=>⟨A',cc,h1,h2,hW.trans (h3.mono hW.size)⟩
   go_region_held3 (fun w'=>w'.cell? ⟨P3,0,none⟩ = some (.slice pa m pc) ∧ Below wq.heap.size wq w') (first | exact HS.out _ ‹_› | exact HS.out _ HDR) (first | (go_at_call 10;(with_reducible refine (HPK.out _ ‹_›).mono ?_);rintro e w5 ⟨A',cc',rfl,hvd,hb5⟩))
   have HB5:=Lib.hid (HQ.out.1.trans (hb5.mono HQ.out.1.size))
   have HVD:=Lib.hid hvd
   have HQ5:Hid (VdAt w5 A V1.length V1 ∧ ItAt w5 B T1.length T1):=Lib.hid ⟨HQ.out.2.1.below hb5,HQ.out.2.2.below hb5⟩
   clear hvd hb5 HS HPK HDR p0
   have p0:=HKS.out w5 HB5.out
   have HDR:=(Below.refl w5.heap.size w5).drew
   have HS:Hid (∀ W,Below w5.heap.size w5 W → W.cell? ⟨P3,0,none⟩ = some (.slice pa m pc) ∧ Below w5.heap.size w5 W):=Lib.hid fun W hW=>⟨HKS.out W (HB5.out.trans (hW.mono HB5.out.size)),hW⟩
   have HPK:Hid (∀ W,Below w5.heap.size w5 W → Calls Tryz.prog 18 #[.slice (some ⟨eb,eo,none⟩) k k,.agg #[.slice pa m pc]] W fun e w'=>∃ A' cc,e = .returned (.tuple #[.slice A' T2.length cc,.int .i64 0]) ∧ ItAt w' A' T2.length T2 ∧ Below w5.heap.size w5 w'):=Lib.hid fun W hW=>(HT5.out W hk (HB5.out.trans (hW.mono HB5.out.size))).mono fun e w' ⟨A',cc,h1,h2,h3⟩=>⟨A',cc,h1,h2,hW.trans (h3.mono hW.size)⟩
   go_upto_region 17 with fail
   go_region_held3 (fun w'=>w'.cell? ⟨P3,0,none⟩ = some (.slice pa m pc) ∧ Below w5.heap.size w5 w') (first | exact HS.out _ ‹_› | exact HS.out _ HDR) (first | (go_at_call 18;(with_reducible refine (HPK.out _ ‹_›).mono ?_);rintro e w6 ⟨B',cb',rfl,hit,hb6⟩))
   have HB6:=Lib.hid (HB5.out.trans (hb6.mono HB5.out.size))
   have HIT:=Lib.hid hit
   have HVD6:=Lib.hid (HVD.out.below hb6)
   have HQ6:Hid (VdAt w6 A V1.length V1 ∧ ItAt w6 B T1.length T1):=Lib.hid ⟨HQ5.out.1.below hb6,HQ5.out.2.below hb6⟩
   clear hit hb6 HS HPK HDR p0 HVD HQ5 HV5 HT5
   obtain ⟨l1,hl1⟩:∃ l1,T1.length = l1:=⟨_,rfl⟩
   obtain ⟨l2,hl2⟩:∃ l2,T2.length = l2:=⟨_,rfl⟩
   have HL1:=Lib.hid hl1
   have HL2:=Lib.hid hl2
   have HTI:=Lib.hid HQ6.out.2
   have HIT2:=Lib.hid HIT.out
   rw [hl1] at HTI hTV hT1b
   rw [hl2] at HIT2 hTV
   have hll:(l1:Int) ≤ (l2:Int):=by omega
   rw [hl1,hl2]
   clear hl1 hl2
   go_wp2_with fail
   go_loopw [14] (fun iv wr=>∃ i:Nat,iv = .int .i64 i ∧ i ≤ l1 ∧ Below w6.heap.size w6 wr) (fun iv _=>l1 - (intOf iv).toNat)
   case atStart=>exact ⟨0,rfl,Nat.zero_le _,Below.refl _ _⟩
   case round =>
    obtain ⟨i,rfl,hi,HM0⟩:=hrel
    have HMM:=Lib.hid HM0
    clear HM0
    by_cases hin:i < l1
    ·have hil:i < T1.length:=by rw [HL1.out];exact hin
     have hil2:i < T2.length:=by rw [HL2.out];omega
     have hsame:T2[i] = T1[i]:=(HPRE.out.getElem hil).symm
     obtain ⟨ba,oa,rfl,_,x0,x1⟩:=(HTI.out.below HMM.out).2 i hil
     obtain ⟨bb,ob,rfl,_,y0,y1⟩:=(HIT2.out.below HMM.out).2 i hil2
     rw [hsame] at y0 y1
     have j1:(0:Int) ≤ (i:Int):=by omega
     have j2:(i:Int) < (l1:Int):=by omega
     have j3:(i:Int) < (l2:Int):=by omega
     have ewi:IntKind.i64.wrap ((i:Int) + 1) = (i:Int) + 1:=IntWalk.i64_in _ (by omega)
     generalize T1[i]'hil = u at *
     obtain ⟨u1,u2⟩:=u
     simp only at x0 x1 y0 y1
     generalize strL u2 = sv at *
     have t1:(sv.toList == sv.toList) = true:=by simp
     clear hsame hil hil2
     go_wp2_with fail
     go_quiet (fail)
     go_wp2_with fail
     go_roundw
     case rel=>exact ⟨i + 1,by go_num,by omega,Below.drewN HMM.out _⟩
     case measure=>simp [intOf];omega
    ·have hi2:(l1:Int) ≤ (i:Int):=by omega
     have HG:=Lib.hid (HGO.out wr A A' ca cc' (HQ6.out.1.below HMM.out) (HVD6.out.below HMM.out))
     go_wp2_with fail
     (with_reducible refine HG.out.mono ?_)
     rintro e w8 ⟨rfl,hb8⟩
     have HB8:=Lib.hid (HMM.out.trans (hb8.mono HMM.out.size))
     clear hb8
     go_wp2_with fail
     have HK1:Hid (Value.int .i64 ((k:Int) + 1) = Value.int .i64 ((k + 1:Nat):Int)):=Lib.hid (by rw [show ((k + 1:Nat):Int) = (k:Int) + 1 from rfl])
     refine ⟨n + 1 - (k + 1),by omega,k + 1,A',B',cc',cb',?_,?_,?_,HK1.out,by omega,rfl,Lib.hid ?_,rfl⟩
     ·rw [HV2.out];rfl
     ·rw [HT2.out,HL2.out];rfl
     ·exact HSL.out
     ·rw [HV2.out,HT2.out]
      exact ⟨HB6.out.trans (HB8.out.mono HB6.out.size),HVD6.out.below HB8.out,HIT.out.below HB8.out⟩
  ·have t2:((evs[j].kind:Int) == 2) = false:=by simpa using h2
   have t2':((evs[j].kind:Int) != 2) = true:=by simp [h2]
   obtain ⟨F1,hF1⟩:∃ F1:Int,FR + 1 = F1:=⟨_,rfl⟩
   have ewf:IntKind.i64.wrap (FR + 1) = F1:=by rw [IntWalk.i64_in _ (by omega),hF1]
   have HSL:Hid (Value.int .i64 F1 = Value.int .i64 ((cntT evs (j + 1 + 1 - 1):Nat):Int)):=Lib.hid (by
    show _ = Value.int .i64 ((cntT evs (j + 1):Nat):Int)
    rw [hcs,if_neg h2,← hF1,hF2];rfl)
   clear hcs h2 hk0 hX7 hF2 hF1
   generalize evs[j] = evj at *
   generalize j + 1 = k at *
   go_upto_region 16 with fail
   (try clear t2 t2' ewf)
   clear e0 ewj i1 i2 hkp hjl
   have p0:=HKS.out wq HQ.out.1
   have HDR:=(Below.refl wq.heap.size wq).drew
   have HS:Hid (∀ W,Below wq.heap.size wq W → W.cell? ⟨P3,0,none⟩ = some (.slice pa m pc) ∧ Below wq.heap.size wq W):=Lib.hid fun W hW=>⟨HKS.out W (HQ.out.1.trans (hW.mono HQ.out.1.size)),hW⟩
   have HPK:Hid (∀ W,Below wq.heap.size wq W → Calls Tryz.prog 10 #[.slice (some ⟨eb,eo,none⟩) k k,.agg #[.slice pa m pc]] W fun e w'=>∃ A' cc,e = .returned (.tuple #[.slice A' V2.length cc,.int .i64 0]) ∧ VdAt w' A' V2.length V2 ∧ Below wq.heap.size wq w'):=Lib.hid fun W hW=>(HV5.out W hk (HQ.out.1.trans (hW.mono HQ.out.1.size))).mono fun e w' ⟨A',cc,h1,h2,h3⟩=>⟨A',cc,h1,h2,hW.trans (h3.mono hW.size)⟩
   go_region_held3 (fun w'=>w'.cell? ⟨P3,0,none⟩ = some (.slice pa m pc) ∧ Below wq.heap.size wq w') (first | exact HS.out _ ‹_› | exact HS.out _ HDR) (first | (go_at_call 10;(with_reducible refine (HPK.out _ ‹_›).mono ?_);rintro e w5 ⟨A',cc',rfl,hvd,hb5⟩))
   have HB5:=Lib.hid (HQ.out.1.trans (hb5.mono HQ.out.1.size))
   have HVD:=Lib.hid hvd
   have HQ5:Hid (VdAt w5 A V1.length V1 ∧ ItAt w5 B T1.length T1):=Lib.hid ⟨HQ.out.2.1.below hb5,HQ.out.2.2.below hb5⟩
   clear hvd hb5 HS HPK HDR p0
   have p0:=HKS.out w5 HB5.out
   have HDR:=(Below.refl w5.heap.size w5).drew
   have HS:Hid (∀ W,Below w5.heap.size w5 W → W.cell? ⟨P3,0,none⟩ = some (.slice pa m pc) ∧ Below w5.heap.size w5 W):=Lib.hid fun W hW=>⟨HKS.out W (HB5.out.trans (hW.mono HB5.out.size)),hW⟩
   have HPK:Hid (∀ W,Below w5.heap.size w5 W → Calls Tryz.prog 18 #[.slice (some ⟨eb,eo,none⟩) k k,.agg #[.slice pa m pc]] W fun e w'=>∃ A' cc,e = .returned (.tuple #[.slice A' T2.length cc,.int .i64 0]) ∧ ItAt w' A' T2.length T2 ∧ Below w5.heap.size w5 w'):=Lib.hid fun W hW=>(HT5.out W hk (HB5.out.trans (hW.mono HB5.out.size))).mono fun e w' ⟨A',cc,h1,h2,h3⟩=>⟨A',cc,h1,h2,hW.trans (h3.mono hW.size)⟩
   go_upto_region 17 with fail
   go_region_held3 (fun w'=>w'.cell? ⟨P3,0,none⟩ = some (.slice pa m pc) ∧ Below w5.heap.size w5 w') (first | exact HS.out _ ‹_› | exact HS.out _ HDR) (first | (go_at_call 18;(with_reducible refine (HPK.out _ ‹_›).mono ?_);rintro e w6 ⟨B',cb',rfl,hit,hb6⟩))
   have HB6:=Lib.hid (HB5.out.trans (hb6.mono HB5.out.size))
   have HIT:=Lib.hid hit
   have HVD6:=Lib.hid (HVD.out.below hb6)
   have HQ6:Hid (VdAt w6 A V1.length V1 ∧ ItAt w6 B T1.length T1):=Lib.hid ⟨HQ5.out.1.below hb6,HQ5.out.2.below hb6⟩
   clear hit hb6 HS HPK HDR p0 HVD HQ5 HV5 HT5
   obtain ⟨l1,hl1⟩:∃ l1,T1.length = l1:=⟨_,rfl⟩
   obtain ⟨l2,hl2⟩:∃ l2,T2.length = l2:=⟨_,rfl⟩
   have HL1:=Lib.hid hl1
   have HL2:=Lib.hid hl2
   have HTI:=Lib.hid HQ6.out.2
   have HIT2:=Lib.hid HIT.out
   rw [hl1] at HTI hTV hT1b
   rw [hl2] at HIT2 hTV
   have hll:(l1:Int) ≤ (l2:Int):=by omega
   rw [hl1,hl2]
   clear hl1 hl2
   go_wp2_with fail
   go_loopw [14] (fun iv wr=>∃ i:Nat,iv = .int .i64 i ∧ i ≤ l1 ∧ Below w6.heap.size w6 wr) (fun iv _=>l1 - (intOf iv).toNat)
   case atStart=>exact ⟨0,rfl,Nat.zero_le _,Below.refl _ _⟩
   case round =>
    obtain ⟨i,rfl,hi,HM0⟩:=hrel
    have HMM:=Lib.hid HM0
    clear HM0
    by_cases hin:i < l1
    ·have hil:i < T1.length:=by rw [HL1.out];exact hin
     have hil2:i < T2.length:=by rw [HL2.out];omega
     have hsame:T2[i] = T1[i]:=(HPRE.out.getElem hil).symm
     obtain ⟨ba,oa,rfl,_,x0,x1⟩:=(HTI.out.below HMM.out).2 i hil
     obtain ⟨bb,ob,rfl,_,y0,y1⟩:=(HIT2.out.below HMM.out).2 i hil2
     rw [hsame] at y0 y1
     have j1:(0:Int) ≤ (i:Int):=by omega
     have j2:(i:Int) < (l1:Int):=by omega
     have j3:(i:Int) < (l2:Int):=by omega
     have ewi:IntKind.i64.wrap ((i:Int) + 1) = (i:Int) + 1:=IntWalk.i64_in _ (by omega)
     generalize T1[i]'hil = u at *
     obtain ⟨u1,u2⟩:=u
     simp only at x0 x1 y0 y1
     generalize strL u2 = sv at *
     have t1:(sv.toList == sv.toList) = true:=by simp
     clear hsame hil hil2
     go_wp2_with fail
     go_quiet (fail)
     go_wp2_with fail
     go_roundw
     case rel=>exact ⟨i + 1,by go_num,by omega,Below.drewN HMM.out _⟩
     case measure=>simp [intOf];omega
    ·have hi2:(l1:Int) ≤ (i:Int):=by omega
     have HG:=Lib.hid (HGO.out wr A A' ca cc' (HQ6.out.1.below HMM.out) (HVD6.out.below HMM.out))
     go_wp2_with fail
     (with_reducible refine HG.out.mono ?_)
     rintro e w8 ⟨rfl,hb8⟩
     have HB8:=Lib.hid (HMM.out.trans (hb8.mono HMM.out.size))
     clear hb8
     go_wp2_with fail
     have HK1:Hid (Value.int .i64 ((k:Int) + 1) = Value.int .i64 ((k + 1:Nat):Int)):=Lib.hid (by rw [show ((k + 1:Nat):Int) = (k:Int) + 1 from rfl])
     refine ⟨n + 1 - (k + 1),by omega,k + 1,A',B',cc',cb',?_,?_,?_,HK1.out,by omega,rfl,Lib.hid ?_,rfl⟩
     ·rw [HV2.out];rfl
     ·rw [HT2.out,HL2.out];rfl
     ·exact HSL.out
     ·rw [HV2.out,HT2.out]
      exact ⟨HB6.out.trans (HB8.out.mono HB6.out.size),HVD6.out.below HB8.out,HIT.out.below HB8.out⟩
end Go.Proofs.YtgjokdngbocehaaGreatDoor
