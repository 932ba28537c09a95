/-
  The law HalfVerdicts.
-/
import Derived.Test.YtgjokdngbocehaaGreatDoorHtA
import Derived.Test.YtgjokdngbocehaaGreatDoorHtD
import Derived.Test.YtgjokdngbocehaaGreatDoorHtE
import Derived.Test.YtgjokdngbocehaaGreatDoorHtF
import Derived.Test.YtgjokdngbocehaaGreatDoorHtG
import Derived.Test.YtgjokdngbocehaaGreatDoorHtK
import Derived.Test.YtgjokdngbocehaaGreatDoorHtV
import Derived.Test.YtgjokdngbocehaaGreatDoorHtW
import Derived.Test.YtgjokdngbocehaaGreatDoorHtX
import Derived.Test.YtgjokdngbocehaaGreatDoorHtY
import Derived.Test.YtgjokdngbocehaaGreatDoorHtZJ
namespace Go.Proofs.YtgjokdngbocehaaGreatDoor
open Go.RowKit
set_option maxRecDepth 100000 in
set_option maxHeartbeats 4000000 in
theorem verdicts_any (A B:Option Addr) (ca cb:Nat) (l:List (Int × Int)) (w:World) (hA:VdAt w A l.length l) (hB:VdAt w B l.length l) (hl:l.length ≤ 1048576) :
  Calls Tryz.prog 13 #[.slice A l.length ca,.slice B l.length cb] w fun e w'=>e = .returned (.bool true) ∧ Below w.heap.size w w':=by
 have HA:=Lib.hid hA
 have HB:=Lib.hid hB
 obtain ⟨n,hn⟩:∃ n,l.length = n:=⟨_,rfl⟩
 have HN:=Lib.hid hn
 rw [hn] at HA HB hl
 rw [hn]
 clear hA hB hn
 go_enter Tryz.func13,Tryz.ntmps13
 go_wp2_with fail
 go_loopw [5] (fun iv wr=>∃ k:Nat,iv = .int .i64 k ∧ k ≤ n ∧ Below w.heap.size w wr) (fun iv _=>n - (intOf iv).toNat)
 case atStart=>exact ⟨0,rfl,Nat.zero_le _,Below.refl _ _⟩
 case round =>
  obtain ⟨k,rfl,hk,HM⟩:=hrel
  by_cases hkn:k < n
  ·have hil:k < l.length:=by rw [HN.out];exact hkn
   obtain ⟨ba,oa,rfl,_,x0,x1⟩:=(HA.out.below HM).2 k hil
   obtain ⟨bb,ob,rfl,_,y0,y1⟩:=(HB.out.below HM).2 k hil
   have i1:(0:Int) ≤ (k:Int):=by omega
   have i2:(k:Int) < (n:Int):=by omega
   have ewk:IntKind.i64.wrap ((k:Int) + 1) = (k:Int) + 1:=IntWalk.i64_in _ (by omega)
   generalize l[k] = v at *
   obtain ⟨v1,v2⟩:=v
   have t1:((v1:Int) != v1) = false:=by simp
   have t2:((v2:Int) != v2) = false:=by simp
   have HB0:=Lib.hid HM
   clear HM
   go_wp2_with fail
   go_quiet (fail)
   go_wp2_with fail
   go_roundw
   case rel=>exact ⟨k + 1,by go_num,by omega,Below.drewN HB0.out _⟩
   case measure=>simp [intOf];omega
  ·have hk2:(n:Int) ≤ (k:Int):=by omega
   go_wp2_with fail
   go_ret
   exact ⟨rfl,HM⟩
set_option maxRecDepth 1000000 in
set_option maxHeartbeats 16000000 in
theorem halfVerdicts_of {f:Nat} (hf:f ≤ 1048576) (a:Option Addr) (n c:Nat) (evs:List Ev) (pa:Option Addr) (pc:Nat) (ss:List PS) (w:World) (hE:EnvT w) (hev:EvsAt w a n evs) (hw:wtEs evs ≤ 1048576) (hx:SsAt f w pa ss) (hpl:ss.length ≤ 1048576) :
  Calls Tryz.prog 3 #[.slice a n c,.agg #[.slice pa ss.length pc]] w fun e w'=>e = .returned (.bool true) ∧ Below w.heap.size w w':=by
 have hn:n ≤ 1048576:=by have:=wtEs_length evs;have:=hev.1;omega
 obtain ⟨W0,hW0⟩:∃ W0,W0 = w.alloc (.cells #[.slice pa ss.length pc] 25):=⟨_,rfl⟩
 have hb0:Below w.heap.size w W0:=by rw [hW0];exact (Below.refl w.heap.size w).alloc (Nat.le_refl _) _
 have hsz0:W0.heap.size = w.heap.size + 1:=by rw [hW0];simp
 have hk4:W0.heap[w.heap.size]? = some (.cells #[.slice pa ss.length pc] 25 (0,0)):=by rw [hW0];exact heap_alloc_new w _
 have HKS:Hid (∀ W,Below W0.heap.size W0 W → W.cell? ⟨w.heap.size,0,none⟩ = some (.slice pa ss.length pc)):=Lib.hid fun W hW=>by rw [cell_heap ((hW.block w.heap.size (by omega)).trans hk4)];rfl
 have FIN:Hid (∀ W,Below W0.heap.size W0 W → Below w.heap.size w W):=Lib.hid fun W hW=>hb0.trans (hW.mono hb0.size)
 have HAW:=Lib.hid (awake15_any W0 (hE.below hb0))
 have HBQ:Hid (∀ W,Below W0.heap.size W0 W → BegQ W a n evs):=Lib.hid fun W hW=>⟨hev.below (FIN.out W hW),hn,evsSmH hw,hw,(hE.below (FIN.out W hW)).rng,(hE.below (FIN.out W hW)).tab⟩
 have HBG:Hid (∀ W,Below W0.heap.size W0 W → Calls Tryz.prog 11 #[.slice a n c] W fun e w'=>e = .returned (.bool (begAll beg0 evs).isSome) ∧ Below W.heap.size W w'):=Lib.hid fun W hW=>begin15_any a n c evs W (hev.below (FIN.out W hW)) hn (evsSmH hw)
 have HLT:Hid (∀ W,Below W0.heap.size W0 W → Calls Tryz.prog 9 #[.agg #[.slice pa ss.length pc]] W fun e w'=>SomeB e ∧ Below W.heap.size W w'):=Lib.hid fun W hW=>light_any pa pc ss W (SsAt.below hx (FIN.out W hW)) hpl
 have HCK:Hid (∀ W,Below W0.heap.size W0 W → Calls Tryz.prog 12 #[.agg #[.slice pa ss.length pc]] W fun e w'=>e = .returned (.int .i64 (checkN f ss)) ∧ Below W.heap.size W w'):=Lib.hid fun W hW=>check_any hf pa pc ss W (hE.below (FIN.out W hW)) (SsAt.below hx (FIN.out W hW)) hpl
 have HVF:Hid (∀ W,Below W0.heap.size W0 W → Calls Tryz.prog 10 #[.slice a n c,.agg #[.slice pa ss.length pc]] W fun e w'=>∃ A cc,e = .returned (.tuple #[.slice A (verdN f evs ss).1.length cc,.int .i64 (verdN f evs ss).2]) ∧ (verdN f evs ss).1.length ≤ cc ∧ VdAt w' A (verdN f evs ss).1.length (verdN f evs ss).1 ∧ Below W.heap.size W w'):=Lib.hid fun W hW=>verdH_any hf a n c evs pa pc ss W (HBQ.out W hW) (SsAt.below hx (FIN.out W hW)) hpl
 have HVR:Hid (∀ W,(n:Int) ≤ 120 → (verdN f evs ss).2 = 0 → Below W0.heap.size W0 W → Calls Tryz.prog 14 #[.slice a n c,.agg #[.slice pa ss.length pc]] W fun e w'=>∃ A cc,e = .returned (.slice A (verdN f evs ss).1.length cc) ∧ VdAt w' A (verdN f evs ss).1.length (verdN f evs ss).1 ∧ Below W.heap.size W w'):=Lib.hid fun W h4 h0 hW=>by
  cases hst:begAll beg0 evs with
  | none=>unfold verdN at h0;rw [hst] at h0;simp at h0
  | some st =>
   rcases checkN_two f ss with hc | hc
   ·have e:verdN f evs ss = (vdT (pathT (exprT (readN evs st) f) (readN evs st) ss ss.length) (readN evs st).length,0):=by
     unfold verdN;rw [hst];simp only;rw [if_neg (by rw [hc];decide)]
    rw [e]
    exact verd15_any a n c evs st pa pc ss W (HBQ.out W hW) hst (by omega) (SsAt.below hx (FIN.out W hW)) hpl (checkN_goodP hc)
   ·unfold verdN at h0;rw [hst] at h0;simp only at h0;rw [if_pos (by rw [hc];decide)] at h0;exact absurd h0 (by decide)
 have HV2:Hid ((verdN f evs ss).2 = (if (begAll beg0 evs).isSome = true ∧ checkN f ss = 0 then 0 else 6) ∧ ((verdN f evs ss).2 ≠ 0 → (verdN f evs ss).1.length = 0) ∧ (verdN f evs ss).1.length ≤ n + 1):=Lib.hid (by
  have hle:∀ st,begAll beg0 evs = some st → (readN evs st).length ≤ n + 1:=fun st hst=>by
   have h1:=(beg_hok hst).len
   have h2:(readN evs st).length = (hAll evs.length evs evs.length).1.length:=List.length_modify _ _ _
   have h3:=hev.1
   omega
  unfold verdN
  cases hst:begAll beg0 evs with
  | none=>simp
  | some st =>
   rcases checkN_two f ss with hc | hc
   ·simp only [hc]
    refine ⟨rfl,fun h=>absurd rfl h,?_⟩
    have:=vdT_le (pathT (exprT (readN evs st) f) (readN evs st) ss ss.length) (readN evs st).length
    have:=hle st hst
    simp only [ne_eq,not_true_eq_false,if_false]
    omega
   ·simp [hc])
 have HW0E:=Lib.hid hW0
 obtain ⟨V,hV⟩:∃ V,verdN f evs ss = V:=⟨_,rfl⟩
 rw [hV] at HVF HVR HV2
 clear hW0 hb0 hsz0 hk4 hE hev hw hx hV hpl
 obtain ⟨cv,hcv⟩:∃ cv,checkN f ss = cv:=⟨_,rfl⟩
 rw [hcv] at HCK HV2
 clear hcv
 generalize (begAll beg0 evs).isSome = gb at *
 generalize ss.length = m at *
 obtain ⟨l,ev⟩:=V
 simp only at HVF HVR HV2
 have p0:=HKS.out W0 (Below.refl _ _)
 go_enter Tryz.func3,Tryz.ntmps3
 go_wp2_with fail
 rw [← HW0E.out]
 (with_reducible refine HAW.out.mono ?_)
 rintro e w1 ⟨rfl,hb1⟩
 have HB1:=Lib.hid hb1
 clear hb1 p0
 have p0:=HKS.out w1 HB1.out
 by_cases hn120:(120:Int) < (n:Int)
 ·go_wp2_with fail
  go_ret
  exact ⟨rfl,FIN.out _ HB1.out⟩
 have hn120':(n:Int) ≤ 120:=by omega
 have HL1:=Lib.hid (HLT.out w1 HB1.out)
 go_wp2_with fail
 (with_reducible refine HL1.out.mono ?_)
 rintro e w2 ⟨⟨b2,rfl⟩,hb⟩
 have HB2:=Lib.hid (HB1.out.trans (hb.mono HB1.out.size))
 clear hb p0
 have p0:=HKS.out w2 HB2.out
 cases b2 with
 | false =>
  go_wp2_with fail
  go_ret
  exact ⟨rfl,FIN.out _ HB2.out⟩
 | true =>
 have HV3:=Lib.hid (HVF.out w2 HB2.out)
 go_wp2_with fail
 (with_reducible refine HV3.out.mono ?_)
 rintro e w3 ⟨A,cc,rfl,hcc,hvd,hb⟩
 have HB3:=Lib.hid (HB2.out.trans (hb.mono HB2.out.size))
 have HVD:=Lib.hid hvd
 have HBG3:=Lib.hid (HBG.out w3 HB3.out)
 clear hb hvd p0 hcc
 have p0:=HKS.out w3 HB3.out
 obtain ⟨hv1,hv2,hv3⟩:=HV2.out
 have HL0:=Lib.hid hv2
 have HL3:=Lib.hid hv3
 have HV1:=Lib.hid hv1
 clear hv1 hv2 hv3 HV2
 go_wp2_with fail
 (with_reducible refine HBG3.out.mono ?_)
 rintro e w4 ⟨rfl,hb⟩
 have HB4:=Lib.hid (HB3.out.trans (hb.mono HB3.out.size))
 clear p0
 have p0:=HKS.out w4 HB4.out
 have HVD4:=Lib.hid (HVD.out.below hb)
 clear hb
 cases gb with
 | false =>
  have he:ev = 6:=by rw [HV1.out];rfl
  have hl:=HL0.out (by rw [he];decide)
  rw [hl]
  subst he
  clear hl
  go_wp2_with fail
  go_ret
  exact ⟨rfl,FIN.out _ HB4.out⟩
 | true =>
 have HC4:=Lib.hid (HCK.out w4 HB4.out)
 go_wp2_with fail
 (with_reducible refine HC4.out.mono ?_)
 rintro e w5 ⟨rfl,hb⟩
 have HB5:=Lib.hid (HB4.out.trans (hb.mono HB4.out.size))
 clear p0
 have p0:=HKS.out w5 HB5.out
 have HVD5:=Lib.hid (HVD4.out.below hb)
 clear hb
 by_cases hc0:cv = 0
 ·have he:ev = 0:=by rw [HV1.out];simp [hc0]
  have HR5:=Lib.hid (HVR.out w5 hn120' he HB5.out)
  subst he hc0
  go_wp2_with fail
  (with_reducible refine HR5.out.mono ?_)
  rintro e w6 ⟨B,cb,rfl,hvb,hb⟩
  have HB6:=Lib.hid (HB5.out.trans (hb.mono HB5.out.size))
  have HEQ:=Lib.hid (verdicts_any A B cc cb l w6 (HVD5.out.below hb) hvb)
  clear hb hvb
  have HEQ2:Hid (Calls Tryz.prog 13 #[.slice A l.length cc,.slice B l.length cb] w6 fun e w'=>e = .returned (.bool true) ∧ Below w6.heap.size w6 w'):=Lib.hid (HEQ.out (by have h9:=HL3.out;omega))
  clear HEQ
  go_wp2_with fail
  (with_reducible refine HEQ2.out.mono ?_)
  rintro e w7 ⟨rfl,hb⟩
  have HB7:=Lib.hid (HB6.out.trans (hb.mono HB6.out.size))
  clear hb
  go_wp2_with fail
  go_ret
  exact ⟨rfl,FIN.out _ HB7.out⟩
 ·have he:ev = 6:=by rw [HV1.out];simp [hc0]
  have hl:=HL0.out (by rw [he];decide)
  have hne:((cv:Int) != 0) = true:=by simp [hc0]
  rw [hl]
  subst he
  clear hl
  go_wp2_with fail
  go_ret
  exact ⟨rfl,FIN.out _ HB5.out⟩
end Go.Proofs.YtgjokdngbocehaaGreatDoor
