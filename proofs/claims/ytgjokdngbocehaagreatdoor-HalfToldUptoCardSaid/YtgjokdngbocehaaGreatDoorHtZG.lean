/-
  The answer's step: the walk.
-/
import Derived.StillTailTactics
import Derived.Test.YtgjokdngbocehaaGreatDoorHtA
import Derived.Test.YtgjokdngbocehaaGreatDoorHtD
import Derived.Test.YtgjokdngbocehaaGreatDoorHtE
import Derived.Test.YtgjokdngbocehaaGreatDoorHtF
import Derived.Test.YtgjokdngbocehaaGreatDoorHtG
import Derived.Test.YtgjokdngbocehaaGreatDoorHtI
import Derived.Test.YtgjokdngbocehaaGreatDoorHtJ
import Derived.Test.YtgjokdngbocehaaGreatDoorHtR
import Derived.Test.YtgjokdngbocehaaGreatDoorHtY
import Derived.Test.YtgjokdngbocehaaGreatDoorHtZA
import Derived.Test.YtgjokdngbocehaaGreatDoorHtZB
import Derived.Test.YtgjokdngbocehaaGreatDoorHtZC
import Derived.Test.YtgjokdngbocehaaGreatDoorHtZD
import Derived.Test.YtgjokdngbocehaaGreatDoorHtZE
import Derived.Test.YtgjokdngbocehaaGreatDoorHtZF
namespace Go.Proofs.YtgjokdngbocehaaGreatDoor
open Go.RowKit
def accV (me re:List Int) (l:List Int):Int:=l.foldl (fun a v=>max a (min (me.getD (v + 1).toNat 0) (re.getD (v + 1).toNat 0))) 0
theorem accV_snoc (me re l:List Int) (v:Int):accV me re (l ++ [v]) = max (accV me re l) (min (me.getD (v + 1).toNat 0) (re.getD (v + 1).toNat 0)):=by unfold accV;rw [List.foldl_append];rfl
def stepV (me re:List Int) (hs:List HN) (rs:List RN) (ax:Int) (k:Nat):Int :=
 if ax ≠ 3 ∧ opI hs k = 1 then max (accV me re (alongR rs.length (lastR rs) (parR rs) ((k:Int) - 1) ax)) 1 else accV me re (alongR rs.length (lastR rs) (parR rs) ((k:Int) - 1) ax)
theorem along_rng {L:Nat} {f:Nat → Nat} {p:Nat → Int} (h:∀ i,i < L → i ≤ f i ∧ f i < L) (v x:Int) (hv:-1 ≤ v):∀ u ∈ alongR L f p v x,-1 ≤ u ∧ u < (L:Int) ∨ (u = -1 ∧ v = -1):=by
 intro u hu
 unfold alongR at hu
 split at hu
 ·cases hu
 ·rename_i hvv
  rcases List.mem_append.1 hu with hu | hu
  ·split at hu
   ·obtain rfl:=List.mem_singleton.1 hu
    exact .inl ⟨hv,by omega⟩
   ·cases hu
  ·obtain ⟨i,rfl,h1,h2⟩:=rngL_mem ((List.mem_filter.1 hu).1)
   have:=hiOf_le h (n:=v) (by omega)
   exact .inl ⟨by omega,by omega⟩
set_option maxRecDepth 100000 in
set_option maxHeartbeats 4000000 in
theorem along0_any (an:Option Addr) (cn:Nat) (x:Int) (f:Nat → Nat) (p:Nat → Int) (w:World) (hx:0 ≤ x ∧ x ≤ 3) :
  Calls Tryz.prog 60 #[.slice an 0 cn,.int .i64 (-1),.int .i64 x] w fun e w'=>∃ A c,e = .returned (.slice A (alongR 0 f p (-1) x).length c) ∧ IntsN w.heap.size w' A (alongR 0 f p (-1) x).length (alongR 0 f p (-1) x) ∧ Below w.heap.size w w':=by
 obtain ⟨j0,hj,hjz0,hjz1,hjz2⟩:=info_parts infoInt
 obtain rfl | rfl | rfl | rfl:x = 0 ∨ x = 1 ∨ x = 2 ∨ x = 3:=by omega
 ·go_enter Tryz.func60,Tryz.ntmps60
  go_wp2_with fail
  go_loopw [7,9] (fun ov iv wr=>ov = .slice none 0 0 ∧ iv = .int .i64 0 ∧ Hid (wr = w)) (fun _ _ _=>0)
  case atStart=>exact ⟨rfl,rfl,Lib.hid rfl⟩
  case round =>
   obtain ⟨rfl,rfl,hw⟩:=hrel
   have HW:=Lib.hid hw.out
   go_wp2_with fail
   go_ret
   exact ⟨none,0,rfl,⟨⟨rfl,fun i h=>absurd h (Nat.not_lt_zero _)⟩,fun ad e=>by cases e⟩,by rw [HW.out];exact Below.refl _ _⟩
 ·go_enter Tryz.func60,Tryz.ntmps60
  go_wp2_with fail
  go_loopw [7,9] (fun ov iv wr=>ov = .slice none 0 0 ∧ iv = .int .i64 0 ∧ Hid (wr = w)) (fun _ _ _=>0)
  case atStart=>exact ⟨rfl,rfl,Lib.hid rfl⟩
  case round =>
   obtain ⟨rfl,rfl,hw⟩:=hrel
   have HW:=Lib.hid hw.out
   go_wp2_with fail
   go_ret
   exact ⟨none,0,rfl,⟨⟨rfl,fun i h=>absurd h (Nat.not_lt_zero _)⟩,fun ad e=>by cases e⟩,by rw [HW.out];exact Below.refl _ _⟩
 ·have HN0:Hid (w.ownsRow w.heap.size 3 1 (.slice none 0 0) 0 []):=Lib.hid (World.ownsRow_nil _ _ _ _)
  go_enter Tryz.func60,Tryz.ntmps60
  go_wp2_with (at_builtin;go_must ((refine wpList_app w (by rfl) _ _ 66 (by rfl) w.heap.size 3 j0 (.int .i64 0) 1 8 Tryz.underlying66 hj hjz0 hjz1 hjz2 (by rfl) (by decide) (.slice none 0 0) 0 [] (by rfl) HN0.out _ rfl 1 [.int .i64 (-1)] (by rfl) (by rfl) (by intro u hu;simp only [List.mem_cons,List.not_mem_nil,or_false] at hu;subst hu;rfl) (by decide) (by decide) (Nat.le_refl _) (fun vO' w7 hown7 hap7=>?_))))
  have hown8:w7.ownsRow w.heap.size 3 1 vO' 1 (([-1]:List Int).map (Value.int .i64)):=hown7
  obtain ⟨A,cc,rfl,hcc,hia⟩:=own_ints hown8
  have hof:=own_from hown8
  have HF:Hid (IntsN w.heap.size w7 A 1 [-1] ∧ Below w.heap.size w w7):=Lib.hid ⟨⟨hia,hof⟩,((Below.refl _ _).alloc (Nat.le_refl _) _).trans (hap7.below (by simp) (fun k hk=>by cases hk))⟩
  clear hown7 hap7 hown8 hia hof
  go_wp2_with fail
  go_loopw [7,9] (fun ov iv wr=>ov = .slice A 1 cc ∧ iv = .int .i64 0 ∧ Hid (wr = w7)) (fun _ _ _=>0)
  case atStart=>exact ⟨rfl,rfl,Lib.hid rfl⟩
  case round =>
   obtain ⟨rfl,rfl,hw⟩:=hrel
   have HW:=Lib.hid hw.out
   go_wp2_with fail
   go_ret
   exact ⟨A,cc,rfl,by rw [HW.out];exact HF.out.1,by rw [HW.out];exact HF.out.2⟩
 ·have HN0:Hid (w.ownsRow w.heap.size 3 1 (.slice none 0 0) 0 []):=Lib.hid (World.ownsRow_nil _ _ _ _)
  go_enter Tryz.func60,Tryz.ntmps60
  go_wp2_with (at_builtin;go_must ((refine wpList_app w (by rfl) _ _ 66 (by rfl) w.heap.size 3 j0 (.int .i64 0) 1 8 Tryz.underlying66 hj hjz0 hjz1 hjz2 (by rfl) (by decide) (.slice none 0 0) 0 [] (by rfl) HN0.out _ rfl 1 [.int .i64 (-1)] (by rfl) (by rfl) (by intro u hu;simp only [List.mem_cons,List.not_mem_nil,or_false] at hu;subst hu;rfl) (by decide) (by decide) (Nat.le_refl _) (fun vO' w7 hown7 hap7=>?_))))
  have hown8:w7.ownsRow w.heap.size 3 1 vO' 1 (([-1]:List Int).map (Value.int .i64)):=hown7
  obtain ⟨A,cc,rfl,hcc,hia⟩:=own_ints hown8
  have hof:=own_from hown8
  have HF:Hid (IntsN w.heap.size w7 A 1 [-1] ∧ Below w.heap.size w w7):=Lib.hid ⟨⟨hia,hof⟩,((Below.refl _ _).alloc (Nat.le_refl _) _).trans (hap7.below (by simp) (fun k hk=>by cases hk))⟩
  clear hown7 hap7 hown8 hia hof
  go_wp2_with fail
  go_loopw [7,9] (fun ov iv wr=>ov = .slice A 1 cc ∧ iv = .int .i64 0 ∧ Hid (wr = w7)) (fun _ _ _=>0)
  case atStart=>exact ⟨rfl,rfl,Lib.hid rfl⟩
  case round =>
   obtain ⟨rfl,rfl,hw⟩:=hrel
   have HW:=Lib.hid hw.out
   go_wp2_with fail
   go_ret
   exact ⟨A,cc,rfl,by rw [HW.out];exact HF.out.1,by rw [HW.out];exact HF.out.2⟩
set_option maxRecDepth 100000 in
set_option maxHeartbeats 8000000 in
theorem step15_any {an:Option Addr} {cn:Nat} {clo:Bool} {evs:List Ev} {hs:List HN} {rs:List RN} {f:Nat} (HX:ExR an cn clo evs hs rs f) (s:PS) (wa:Option Addr) (wn:Nat) (a:Option Addr) (c:Nat) (l:List Int) (w:World) (h:RD w an clo evs hs rs) (hax:AxF rs.length (lastR rs) (parR rs)) (hlr:∀ i r,rs[i]? = some r → ((lastR rs i:Nat):Int) = r.last) (hx:XsAt f w wa s.wher) (hn:s.wher.length ≤ 1048576) (hg:s.wher.all (goodXB f) = true) (ht:0 ≤ s.test ∧ s.test ≤ 3) (hat:0 ≤ s.axis ∧ s.axis ≤ 3) (hT:TsAt w a hs.length l) :
  Calls Tryz.prog 68 #[.agg #[.slice an rs.length cn,.bool clo],.agg (stepC s wa wn).toArray,.slice a hs.length c] w fun e w'=>∃ P,e = .returned (.slice (some ⟨P,0,none⟩) hs.length hs.length) ∧ w.heap.size ≤ P ∧ TsAt w' (some ⟨P,0,none⟩) hs.length (rowOf hs.length (stepV (metT (exprT hs f) hs s (rowOf hs.length fun _=>2)) l hs rs s.axis)) ∧ Below w.heap.size w w':=by
 obtain ⟨i0,hi,hz0,hz1,hz2⟩:=info_parts infoInt
 have HSV:Hid (∀ k,stepV (metT (exprT hs f) hs s (rowOf hs.length fun _=>2)) l hs rs s.axis k = if s.axis ≠ 3 ∧ opI hs k = 1 then max (accV (metT (exprT hs f) hs s (rowOf hs.length fun _=>2)) l (alongR rs.length (lastR rs) (parR rs) ((k:Int) - 1) s.axis)) 1 else accV (metT (exprT hs f) hs s (rowOf hs.length fun _=>2)) l (alongR rs.length (lastR rs) (parR rs) ((k:Int) - 1) s.axis)):=Lib.hid fun _=>rfl
 generalize stepV (metT (exprT hs f) hs s (rowOf hs.length fun _=>2)) l hs rs s.axis = SV at *
 obtain ⟨L,hL⟩:∃ L,rs.length = L:=⟨_,rfl⟩
 obtain ⟨N,hN⟩:∃ N,hs.length = N:=⟨_,rfl⟩
 have hNL:N = L + 1:=by rw [← hL,← hN];exact h.len
 have hcap:L ≤ 400:=by rw [← hL];exact h.cap
 obtain ⟨W0,hW0⟩:∃ W0,W0 = (w.alloc (.cells #[.slice an L cn,.bool clo] 90)).alloc (.cells #[.int .i64 s.axis,.int .i64 s.test,.string (strL s.name),.slice wa s.wher.length wn] 76):=⟨_,rfl⟩
 have hb0:Below w.heap.size w W0:=by rw [hW0];exact ((Below.refl w.heap.size w).alloc (Nat.le_refl _) _).alloc (by simp) _
 have hsz0:W0.heap.size = w.heap.size + 2:=by rw [hW0];simp
 have hk0:W0.heap[w.heap.size]? = some (.cells #[.slice an L cn,.bool clo] 90 (0,0)):=by
  rw [hW0,Below.heap_alloc _ _ _ (by simp)];exact heap_alloc_new w _
 have hk1:W0.heap[w.heap.size + 1]? = some (.cells #[.int .i64 s.axis,.int .i64 s.test,.string (strL s.name),.slice wa s.wher.length wn] 76 (0,0)):=by
  rw [hW0];exact alloc_atR _ _ (by simp)
 have HKS:Hid (∀ W,Below W0.heap.size W0 W → W.cell? ⟨w.heap.size,0,none⟩ = some (.slice an L cn) ∧ W.cell? ⟨w.heap.size,1,none⟩ = some (.bool clo) ∧ W.cell? ⟨w.heap.size + 1,0,none⟩ = some (.int .i64 s.axis) ∧ W.cell? ⟨w.heap.size + 1,1,none⟩ = some (.int .i64 s.test) ∧ W.cell? ⟨w.heap.size + 1,2,none⟩ = some (.string (strL s.name)) ∧ W.cell? ⟨w.heap.size + 1,3,none⟩ = some (.slice wa s.wher.length wn)):=Lib.hid fun W hW=>by
  have g0:=(hW.block w.heap.size (by omega)).trans hk0
  have g1:=(hW.block (w.heap.size + 1) (by omega)).trans hk1
  exact ⟨by rw [cell_heap g0];rfl,by rw [cell_heap g0];rfl,by rw [cell_heap g1];rfl,by rw [cell_heap g1];rfl,by rw [cell_heap g1];rfl,by rw [cell_heap g1];rfl⟩
 have FIN:Hid (∀ W,Below W0.heap.size W0 W → Below w.heap.size w W ∧ w.heap.size ≤ W0.heap.size):=Lib.hid fun W hW=>⟨hb0.trans (hW.mono hb0.size),hb0.size⟩
 obtain ⟨me,hme⟩:∃ me,metT (exprT hs f) hs s (rowOf hs.length fun _=>2) = me:=⟨_,rfl⟩
 rw [hme] at HSV
 have HME:Hid (Calls Tryz.prog 59 #[.agg #[.slice an L cn,.bool clo],.agg #[.int .i64 s.axis,.int .i64 s.test,.string (strL s.name),.slice wa s.wher.length wn]] W0 fun e w'=>∃ P,e = .returned (.slice (some ⟨P,0,none⟩) N N) ∧ W0.heap.size ≤ P ∧ TsAt w' (some ⟨P,0,none⟩) N me ∧ Below W0.heap.size W0 w'):=Lib.hid (by
  have:=met15_any (cn:=cn) HX s wa wn W0 (h.below hb0) (XsAt.below hx hb0) hn hg ht
  unfold stepC at this
  rw [hL,hN,← hN,hme,hN] at this
  exact this)
 have HAL:Hid (∀ (k:Nat) (J:Int) W,k < N → J + 1 = (k:Int) → Below W0.heap.size W0 W → Calls Tryz.prog 60 #[.slice an L cn,.int .i64 J,.int .i64 s.axis] W fun e w'=>∃ A c,e = .returned (.slice A (alongR L (lastR rs) (parR rs) J s.axis).length c) ∧ IntsN W.heap.size w' A (alongR L (lastR rs) (parR rs) J s.axis).length (alongR L (lastR rs) (parR rs) J s.axis) ∧ Below W.heap.size W w'):=Lib.hid fun k J W hk hJ hW=>by
  have hb:=(FIN.out W hW).1
  by_cases hl0:L = 0
  ·have hJ1:J = -1:=by omega
   have:=along0_any an cn s.axis (lastR rs) (parR rs) W hat
   rw [hJ1,hl0]
   exact this
  ·refine alongF_any an cn L J s.axis (lastR rs) (parR rs) W hcap (by omega) (by rw [← hL];exact hax.rng) (fun i hi=>?_) (by omega) (by omega)
   have hir:rs[i]? = some (rs[i]'(by omega)):=List.getElem?_eq_getElem _
   obtain ⟨y,hy,_⟩:=h.rel i _ hir
   obtain ⟨r,b,A,m,c',g1,g2,g3,g4,g5,g6⟩:=(h.below hb).node i y hy
   have g7:=g6 W (Below.refl _ _)
   have e1:parR rs i = r.par:=by unfold parR;rw [g1];rfl
   have e2:=hlr i r g1
   obtain ⟨b',e',A',m',c'',k1,k2,_⟩:=(h.below hb).mem i r g1
   have hbb:b' = b:=by rw [k1] at g4;cases g4;rfl
   rw [hbb] at k1 k2
   exact ⟨b,k1,k2,by rw [e1];exact g7.2.2.2.2.1,by rw [e2];exact g7.2.2.2.2.2.1⟩
 have HRNG:Hid (∀ (J:Int),-1 ≤ J → J < (L:Int) → ∀ u ∈ alongR L (lastR rs) (parR rs) J s.axis,0 ≤ u + 1 ∧ (u + 1).toNat < N ∧ -1 ≤ u ∧ u < (N:Int)):=Lib.hid fun J h1 h2 u hu=>by
  have:=along_rng (by rw [← hL];exact hax.rng) J s.axis h1 u hu
  omega
 have HLN:Hid (∀ J:Int,(alongR L (lastR rs) (parR rs) J s.axis).length ≤ L + 1):=Lib.hid fun J=>by
  rw [← hL,alongR_eq hax];exact alongM_len _ _ _ _
 have HOPN:Hid (∀ (k:Nat) (J:Int) W,k < N → J + 1 = (k:Int) → Below W0.heap.size W0 W → Calls Tryz.prog 38 #[.agg #[.slice an L cn,.bool clo],.int .i64 J] W fun e w'=>e = .returned (.bool (decide (opI hs k = 1))) ∧ Below W.heap.size W w'):=Lib.hid fun k J W hk hJ hW=>by
  obtain ⟨y,hy⟩:=h.get k (by omega)
  have hjk:(J + 1).toNat = k:=by omega
  have ho:=open15_any (cn:=cn) J y W (h.below (FIN.out W hW).1) (by omega) (by rw [hjk];exact hy)
  rw [hL] at ho
  have e:decide (opI hs k = 1) = y.op:=by unfold opI;rw [hy];cases hq:y.op <;> simp [hq]
  rw [e];exact ho
 have HTW:Hid (∀ W,Below w.heap.size w W → TsAt W a N l):=Lib.hid fun W hW=>by rw [← hN];exact hT.below hW
 have HAN:=Lib.hid and15_any
 have HOR:=Lib.hid or15_any
 have HN0:=Lib.hid hN
 have HL0:=Lib.hid hL
 have HW0:=Lib.hid hW0
 have HNL:=Lib.hid hNL
 have HNI:Hid ((L:Int) + 1 = (N:Int)):=Lib.hid (by omega)
 have hNb:N ≤ 401:=by omega
 have hN1:1 ≤ N:=by omega
 have HAX:=Lib.hid hat
 rw [hN,hL]
 unfold stepC
 clear hb0 hsz0 hk0 hk1 hW0 h hx hg ht HX hL hN hT hax hlr hn hme hat hNL
 rw [HL0.out] at HSV
 generalize alongR L (lastR rs) (parR rs) = AL at *
 obtain ⟨p0,p1,p2,p3,p4,p5⟩:=HKS.out W0 (Below.refl _ _)
 go_enter Tryz.func68,Tryz.ntmps68
 go_wp2_with fail
 rw [← HW0.out]
 go_wp2_with fail
 (with_reducible refine HME.out.mono ?_)
 rintro e w1 ⟨P1,rfl,hP1,hT1,hb1⟩
 obtain ⟨p0,p1,p2,p3,p4,p5⟩:=HKS.out w1 hb1
 have HB1:=Lib.hid hb1
 have HT1:=Lib.hid hT1
 have HP1:Hid (P1 < w1.heap.size):=Lib.hid (hT1.at0 0 hN1).2
 have HAW:Hid (∀ q o,a = some ⟨q,o,none⟩ → q < w.heap.size):=Lib.hid fun q o e=>by
  obtain ⟨b',o',e',hlt,_⟩:=(HTW.out w (Below.refl _ _)).get 0 hN1
  rw [e] at e'
  cases e'
  exact hlt
 have HWS:=Lib.hid (⟨(FIN.out w1 hb1).1,(FIN.out w1 hb1).1.size⟩:_ ∧ _)
 clear hP1 hT1 hb1
 go_wp2_with (at_make;go_must ((refine wpList_make_full w1 (by rfl) _ _ 66 (by rfl) w1.heap.size 3 i0 _ 1 Tryz.underlying66 hi hz0 hz1 .i64 .i64 (N:Int) (N:Int) N (by rfl) (by rfl) rfl rfl (by rw [hz2];omega) (by unfold maxLen;omega) (Nat.le_refl _) (fun w2 hown hgr=>?_));have HMJ:=Lib.hid (MJ.made (w:=w1) (Below.refl _ _) hown hgr)))
 clear hown hgr p0 p1 p2 p3 p4 p5
 obtain ⟨P,hP⟩:∃ P,w1.heap.size = P:=⟨_,rfl⟩
 have HPE:=Lib.hid hP
 rw [hP] at HMJ
 rw [hP]
 clear hP
 go_loopw [9] (fun iv wr=>∃ (k:Nat) (J:Int),iv = .int .i64 J ∧ J + 1 = (k:Int) ∧ k ≤ N ∧ Hid (MJ w1 P N (mixR N k SV (fun _=>0)) wr)) (fun iv _=>N - (intOf iv + 1).toNat)
 case atStart=>exact ⟨0,-1,rfl,rfl,Nat.zero_le _,Lib.hid (by rw [← rep_mix];exact HMJ.out)⟩
 case round =>
  obtain ⟨k,J,rfl,hJ,hk,HM⟩:=hrel
  have HB0:Hid (Below W0.heap.size W0 wr):=Lib.hid (HB1.out.trans (HM.out.old.mono HB1.out.size))
  obtain ⟨p0,p1,p2,p3,p4,p5⟩:=HKS.out wr HB0.out
  by_cases hkn:k < N
  ·have HA1:=Lib.hid (HAL.out k J wr hkn hJ HB0.out)
   have HRG:=Lib.hid (HRNG.out J (by omega) (by have:=HNL.out;omega))
   have htl:=HLN.out J
   have HSK:=Lib.hid (HSV.out k)
   rw [show (k:Int) - 1 = J by omega] at HSK
   have HJ0:=Lib.hid hJ
   have HOPK:Hid (∀ W,Below W0.heap.size W0 W → Calls Tryz.prog 38 #[.agg #[.slice an L cn,.bool clo],.int .i64 J] W fun e w'=>e = .returned (.bool (decide (opI hs k = 1))) ∧ Below W.heap.size W w'):=Lib.hid fun W hW=>HOPN.out k J W hkn hJ hW
   have ewj:IntKind.i64.wrap (J + 1) = (k:Int):=by rw [IntWalk.i64_in _ (by omega)];omega
   have hjl:J < (L:Int):=by have:=HNL.out;omega
   have i1:(0:Int) ≤ (k:Int):=by omega
   have i2:(k:Int) < (N:Int):=by omega
   generalize AL J s.axis = tl at *
   clear hJ
   go_wp2_with fail
   (with_reducible refine HA1.out.mono ?_)
   rintro e w3 ⟨A,cc,rfl,hia,hb3⟩
   have HM3:Hid (MJ w1 P N ((mixR N k SV (fun _=>0)).set k (accV me l (tl.take 0))) w3 ∧ IntsAt w3 A tl.length tl ∧ ∀ ad,A = some ad → P ≠ ad.block):=Lib.hid ⟨by
    have h1:=HM.out.below hb3
    have h2:(mixR N k SV (fun _=>0)).set k (accV me l (tl.take 0)) = mixR N k SV (fun _=>0):=by
     rw [List.take_zero]
     refine List.ext_getElem (by rw [List.length_set]) fun q g1 g2=>?_
     rw [List.getElem_set]
     by_cases e:k = q
     ·subst e
      have:=mixR_get N k k SV (fun _=>0) hkn (Nat.le_refl _)
      rw [if_pos rfl]
      have h3:=List.getElem?_eq_getElem g2
      rw [this] at h3
      exact Option.some.inj h3
     ·rw [if_neg e]
    rw [h2];exact h1,hia.1,fun ad e=>by have h5:=hia.2 ad e;have h6:=HM.out.lt;omega⟩
   clear hia hb3 HA1
   have htl2:tl.length ≤ 402:=by omega
   clear htl
   obtain ⟨tn,htn⟩:∃ tn,tl.length = tn:=⟨_,rfl⟩
   have HTN:=Lib.hid htn
   rw [htn] at HM3 htl2
   rw [htn]
   clear htn
   go_wp2_with fail
   go_loopw [11] (fun iv wr=>∃ i:Nat,iv = .int .i64 i ∧ i ≤ tn ∧ Hid (MJ w1 P N ((mixR N k SV (fun _=>0)).set k (accV me l (tl.take i))) wr ∧ IntsAt wr A tn tl ∧ ∀ ad,A = some ad → P ≠ ad.block)) (fun iv _=>tn - (intOf iv).toNat)
   case atStart=>exact ⟨0,rfl,Nat.zero_le _,HM3⟩
   case round =>
    obtain ⟨i,rfl,hit,HI⟩:=hrel
    have hB0:=HB1.out.trans (HI.out.1.old.mono HB1.out.size)
    have HBI:Hid (Below W0.heap.size W0 wr):=Lib.hid hB0
    obtain ⟨p0,p1,p2,p3,p4,p5⟩:=HKS.out wr hB0
    clear hB0
    have hgk:∀ v,((mixR N k SV (fun _=>0)).set k v).getD k 0 = v:=fun v=>by rw [getD_set _ _ _ _ (by rw [mixR_len];exact hkn),if_pos rfl]
    have z0:=HI.out.1.at k hkn
    rw [hgk] at z0
    have fz:=HI.out.1.frozen k
    have lz:=HI.out.1.lt
    by_cases hin:i < tn
    ·have hil:i < tl.length:=by rw [HTN.out];exact hin
     obtain ⟨b,o,rfl,hbl,y0⟩:=HI.out.2.1.at' i hil
     obtain ⟨u1,u2,u3,u4⟩:=HRG.out tl[i] (List.getElem_mem hil)
     have HSN:Hid (accV me l (tl.take (i + 1)) = max (accV me l (tl.take i)) (min (me.getD (tl[i] + 1).toNat 0) (l.getD (tl[i] + 1).toNat 0))):=Lib.hid (by rw [List.take_succ_eq_append_getElem hil,accV_snoc])
     generalize tl[i] = u at *
     obtain ⟨ju,hju⟩:∃ ju,(u + 1).toNat = ju:=⟨_,rfl⟩
     rw [hju] at HSN u2
     obtain ⟨y1,y2⟩:=(HT1.out.below HI.out.1.old).at0 ju u2
     obtain ⟨rb,ro,rfl,hrb,hrc⟩:=(HTW.out wr (FIN.out wr HBI.out).1).get ju u2
     have y3:=hrc wr (Below.refl _ _)
     have ewu:IntKind.i64.wrap (u + 1) = (ju:Int):=by rw [IntWalk.i64_in _ (by omega)];omega
     have HNX:Hid (MJ w1 P N ((mixR N k SV (fun _=>0)).set k (max (accV me l (tl.take i)) (min (me.getD ju 0) (l.getD ju 0)))) (wr.setCell ⟨P,k,none⟩ (.int .i64 (max (accV me l (tl.take i)) (min (me.getD ju 0) (l.getD ju 0))))) ∧ IntsAt (wr.setCell ⟨P,k,none⟩ (.int .i64 (max (accV me l (tl.take i)) (min (me.getD ju 0) (l.getD ju 0))))) (some ⟨b,o,none⟩) tn tl):=Lib.hid ⟨by
      have h1:=HI.out.1.set k (max (accV me l (tl.take i)) (min (me.getD ju 0) (l.getD ju 0)))
      rwa [List.set_set] at h1,HI.out.2.1.len,fun i' hi'=>by
      obtain ⟨b',o',e',hl',hc'⟩:=HI.out.2.1.at' i' hi'
      refine ⟨b',o',e',by simp [World.setCell];exact hl',?_⟩
      have hne:=HI.out.2.2 _ e'
      rw [← hc']
      have hk:∀ v,(wr.setCell ⟨P,k,none⟩ v).heap[b']? = wr.heap[b']?:=fun v=>Below.heap_setCell _ _ _ _ (show b' ≠ P from fun e=>hne e.symm)
      simp only [World.cell?,hk]⟩
     have HAD:Hid (Calls Tryz.prog 62 #[.int .i64 (me.getD ju 0),.int .i64 (l.getD ju 0)] wr.drew fun e w'=>e = .returned (.int .i64 (min (me.getD ju 0) (l.getD ju 0))) ∧ w' = wr.drew):=Lib.hid (HAN.out _ _ _)
     have HOD:Hid (Calls Tryz.prog 61 #[.int .i64 (accV me l (tl.take i)),.int .i64 (min (me.getD ju 0) (l.getD ju 0))] wr.drew fun e w'=>e = .returned (.int .i64 (max (accV me l (tl.take i)) (min (me.getD ju 0) (l.getD ju 0)))) ∧ w' = wr.drew):=Lib.hid (HOR.out _ _ _)
     rw [← HSN.out] at HNX HOD
     generalize min (me.getD ju 0) (l.getD ju 0) = v3 at *
     generalize me.getD ju 0 = v1 at *
     generalize l.getD ju 0 = v2 at *
     obtain ⟨ac,hac⟩:∃ ac,accV me l (tl.take i) = ac:=⟨_,rfl⟩
     rw [hac] at z0 HOD
     obtain ⟨ac2,hac2⟩:∃ ac2,accV me l (tl.take (i + 1)) = ac2:=⟨_,rfl⟩
     rw [hac2] at HNX HOD
     have HAC2:=Lib.hid hac2
     have HNE:Hid (∀ ad,(some ⟨b,o,none⟩:Option Addr) = some ad → P ≠ ad.block):=Lib.hid HI.out.2.2
     have k1:(0:Int) ≤ (i:Int):=by omega
     have k2:(i:Int) < (tn:Int):=by omega
     have k3:(0:Int) ≤ (ju:Int):=by omega
     have k4:(ju:Int) < (N:Int):=by omega
     have ewi:IntKind.i64.wrap ((i:Int) + 1) = (i:Int) + 1:=by
      exact IntWalk.i64_in _ (by omega)
     clear hrc hju hgk hac hac2 u1 u2 u3 u4 HSN
     go_wp2_with fail
     refine wp_region_still_tail 27 (by kernel_rfl) (by kernel_rfl) ?_
     change wpStill _ _ wr.drew (fun a'=>wpList _ _ _ _ a' wr.drew) _ _
     simp only [List.take_succ_cons,List.take_zero,List.drop_succ_cons,List.drop_zero]
     repeat still_step
     still_call HAD.out
     still_call HOD.out
     still_step
     refine wpStill_nil ?_
     go_wp2_with fail
     go_roundw
     case rel=>exact ⟨i + 1,by go_num,by omega,Lib.hid (by rw [HAC2.out];exact ⟨HNX.out.1.below ((Below.refl _ _).drew),HNX.out.2.below ((Below.refl _ _).drew),HNE.out⟩)⟩
     case measure=>simp [intOf];omega
    ·have hi2:i = tn:=by omega
     have hfull:tl.take i = tl:=List.take_of_length_le (by rw [HTN.out];omega)
     rw [hfull] at z0
     have HIM:Hid (MJ w1 P N ((mixR N k SV (fun _=>0)).set k (accV me l tl)) wr):=Lib.hid (by have:=HI.out.1;rw [hfull] at this;exact this)
     have HNXV:Hid (∀ v W,SV k = v → MJ w1 P N ((mixR N k SV (fun _=>0)).set k v) W → MJ w1 P N (mixR N (k + 1) SV (fun _=>0)) W):=Lib.hid fun v W hv hW=>by rwa [mixR_set _ _ _ _ _ hv.symm] at hW
     have k2:(tn:Int) ≤ (i:Int):=by omega
     have HO5:=Lib.hid (HOPK.out wr HBI.out)
     have HOD:Hid (∀ W:World,Calls Tryz.prog 61 #[.int .i64 (accV me l tl),.int .i64 1] W fun e w'=>e = .returned (.int .i64 (max (accV me l tl) 1)) ∧ w' = W):=Lib.hid fun W=>HOR.out _ _ W
     clear HI hfull hgk hi2
     by_cases a3:s.axis = 3
     ·have HF:Hid (SV k = accV me l tl):=Lib.hid (by have:=HSK.out;rw [if_neg (fun h=>h.1 a3)] at this;exact this)
      have t3:((s.axis:Int) == 3) = true:=by simpa using a3
      have t3':((s.axis:Int) != 3) = false:=by simp [a3]
      have HE:=Lib.hid (HNXV.out _ wr HF.out HIM.out)
      clear a3 HSK HIM HNXV HO5
      generalize accV me l tl = ac at *
      go_wp2_with fail
      go_roundw
      case rel=>exact ⟨k + 1,(k:Int),by first | rfl | go_num,by omega,by omega,HE⟩
      case measure=>have:=HJ0.out;simp [intOf];omega
     ·have t3:((s.axis:Int) == 3) = false:=by simpa using a3
      have t3':((s.axis:Int) != 3) = true:=by simp [a3]
      by_cases ho:opI hs k = 1
      ·have HF:Hid (SV k = max (accV me l tl) 1):=Lib.hid (by have:=HSK.out;rw [if_pos ⟨a3,ho⟩] at this;exact this)
       rw [decide_eq_true ho] at HO5
       clear a3 ho HSK
       go_wp2_with fail
       (with_reducible refine HO5.out.mono ?_)
       rintro e w5 ⟨rfl,hb5⟩
       have hM5:=HIM.out.below hb5
       have z5:=hM5.at k hkn
       rw [getD_set _ _ _ _ (by rw [mixR_len];exact hkn),if_pos rfl] at z5
       have f5:=hM5.frozen k
       have l5:=hM5.lt
       have HE:Hid (MJ w1 P N (mixR N (k + 1) SV (fun _=>0)) (w5.setCell ⟨P,k,none⟩ (.int .i64 (max (accV me l tl) 1)))):=Lib.hid (HNXV.out _ _ HF.out (by
        have h1:=hM5.set k (max (accV me l tl) 1)
        rwa [List.set_set] at h1))
       have HOD5:=Lib.hid (HOD.out w5)
       clear hM5 hb5 HIM HNXV HO5 HF z0 HOD
       generalize max (accV me l tl) 1 = ac2 at *
       generalize accV me l tl = ac at *
       go_wp2_with fail
       (with_reducible refine HOD5.out.mono ?_)
       rintro e w6 ⟨rfl,rfl⟩
       go_wp2_with fail
       go_roundw
       case rel=>exact ⟨k + 1,(k:Int),by first | rfl | go_num,by omega,by omega,HE⟩
       case measure=>have:=HJ0.out;simp [intOf];omega
      ·have HF:Hid (SV k = accV me l tl):=Lib.hid (by have:=HSK.out;rw [if_neg (fun h=>ho h.2)] at this;exact this)
       rw [decide_eq_false ho] at HO5
       clear a3 ho HSK
       go_wp2_with fail
       (with_reducible refine HO5.out.mono ?_)
       rintro e w5 ⟨rfl,hb5⟩
       have HE:=Lib.hid (HNXV.out _ w5 HF.out (HIM.out.below hb5))
       clear hb5 HIM HNXV HO5 HF z0
       go_wp2_with fail
       go_roundw
       case rel=>exact ⟨k + 1,(k:Int),by first | rfl | go_num,by omega,by omega,HE⟩
       case measure=>have:=HJ0.out;simp [intOf];omega
  ·have hk2:k = N:=by omega
   have HF:Hid (TsAt wr (some ⟨P,0,none⟩) N (rowOf N SV) ∧ Below w.heap.size w wr):=Lib.hid ⟨by have:=HM.out.ts;rw [hk2,mixR_all] at this;exact this,(FIN.out wr HB0.out).1⟩
   have hjl:(L:Int) ≤ J:=by have:=HNL.out;omega
   have hPw:w.heap.size ≤ P:=by have:=HPE.out;have:=HWS.out.2;omega
   clear HM hJ
   go_wp2_with fail
   go_ret
   exact ⟨P,rfl,hPw,HF.out.1,HF.out.2⟩
end Go.Proofs.YtgjokdngbocehaaGreatDoor
namespace Go.Proofs.YtgjokdngbocehaaGreatDoor
open Go.RowKit
structure Lk (hs:List HN) (rs:List RN):Prop where
 len:hs.length = rs.length + 1
 par:∀ k,k < rs.length → parH hs (k + 1) = (parR rs k + 1).toNat
 ax:AxF rs.length (lastR rs) (parR rs)
 opn:∀ k,1 ≤ k → k < hs.length → opI hs k ≤ opI hs (parH hs k)
theorem metT_min (ex:PX → List Int) (hs:List HN) (s:PS) (b:List Int) (h3:R3 b) (hx:∀ x ∈ s.wher,R3 (ex x)) (i:Nat) (hi:i < hs.length):∀ j,j ≤ s.wher.length → (metK ex hs s b j).getD i 0 = min ((met2 ex hs s j).getD i 0) (b.getD i 0):=by
 intro j
 induction j with
 | zero =>
  intro _
  have e:metK ex hs s b 0 = rowOf hs.length fun k=>andL [tst hs s k,b.getD k 0]:=by unfold metK;rw [List.take_zero];rfl
  have ht:T3 (tst hs s i):=by unfold tst;rw [List.getElem?_eq_getElem hi];exact testT_3 _ _
  rw [e,met2_zero,rowOf_getD _ _ _ hi,rowOf_getD _ _ _ hi,andL_two ht (h3.at i)]
 | succ j ih =>
  intro hj
  have hjx:=hx _ (List.getElem_mem (show j < s.wher.length by omega))
  have hm3:R3 (metK ex hs s b j):=by
   have:metK ex hs s b j = metT ex hs (.mk s.axis s.test s.name (s.wher.take j)) b:=rfl
   rw [this];exact metT_3 _ _ _ _
  rw [metK_succ _ _ _ _ _ (by omega),met2_succ _ _ _ _ (by omega) hjx,rowOf_getD _ _ _ hi,rowOf_getD _ _ _ hi,andL_two (hm3.at i) (hjx.at i),ih (by omega)]
  omega
theorem accV_le (me re l:List Int) (c:Int):accV me re l ≤ c ↔ 0 ≤ c ∧ ∀ v ∈ l,min (me.getD (v + 1).toNat 0) (re.getD (v + 1).toNat 0) ≤ c:=by
 have key:∀ (l:List Int) (a:Int),l.foldl (fun a v=>max a (min (me.getD (v + 1).toNat 0) (re.getD (v + 1).toNat 0))) a ≤ c ↔ a ≤ c ∧ ∀ v ∈ l,min (me.getD (v + 1).toNat 0) (re.getD (v + 1).toNat 0) ≤ c:=by
  intro l
  induction l with
  | nil=>intro a;simp
  | cons x l ih =>
   intro a
   rw [List.foldl_cons,ih]
   constructor
   ·rintro ⟨h1,h2⟩
    refine ⟨by omega,fun v hv=>?_⟩
    rcases List.mem_cons.1 hv with rfl | hv
    ·omega
    ·exact h2 v hv
   ·rintro ⟨h1,h2⟩
    have:=h2 x List.mem_cons_self
    exact ⟨by omega,fun v hv=>h2 v (List.mem_cons_of_mem _ hv)⟩
 exact key l 0
theorem eq_of_le_iff {a b:Int} (h:∀ c,a ≤ c ↔ b ≤ c):a = b:=Int.le_antisymm ((h b).2 (Int.le_refl _)) ((h a).1 (Int.le_refl _))
def lastH (rs:List RN) (m:Nat):Nat:=if m = 0 then rs.length else lastR rs (m - 1) + 1
section
variable {hs:List HN} {rs:List RN}
theorem Lk.parlt (h:Lk hs rs):∀ k,1 ≤ k → k < hs.length → parH hs k < k:=by
 intro k h1 h2
 obtain ⟨i,rfl⟩:∃ i,k = i + 1:=⟨k - 1,by omega⟩
 have hl:=h.len
 have:=h.ax.plt i (by omega)
 rw [h.par i (by omega)]
 omega
theorem Lk.hc (h:Lk hs rs):∀ k,1 ≤ k → k < hs.length → k ≤ lastH rs (parH hs k):=by
 intro k h1 h2
 obtain ⟨i,rfl⟩:∃ i,k = i + 1:=⟨k - 1,by omega⟩
 have hl:=h.len
 have hp:=h.ax.plt i (by omega)
 rw [h.par i (by omega)]
 unfold lastH
 split
 ·omega
 ·obtain ⟨m,hm⟩:∃ m:Nat,parR rs i = (m:Int):=⟨(parR rs i).toNat,by omega⟩
  have:=ax_child h.ax i m (by omega) hm
  rw [hm]
  have e:((m:Int) + 1).toNat - 1 = m:=by omega
  rw [e];omega
theorem Lk.hg (h:Lk hs rs):∀ m k,m < hs.length → m < k → k ≤ lastH rs m → k < hs.length ∧ m ≤ parH hs k:=by
 intro m k hm h1 h2
 have hl:=h.len
 obtain ⟨i,rfl⟩:∃ i,k = i + 1:=⟨k - 1,by omega⟩
 unfold lastH at h2
 split at h2
 ·exact ⟨by omega,by omega⟩
 ·obtain ⟨j,rfl⟩:∃ j,m = j + 1:=⟨m - 1,by omega⟩
  rw [Nat.add_sub_cancel] at h2
  have hr:=h.ax.rng j (by omega)
  have:=par_ge h.ax j (by omega) i (by omega) (by omega)
  rw [h.par i (by omega)]
  exact ⟨by omega,by omega⟩
theorem Lk.hn (h:Lk hs rs):∀ m j,m < hs.length → m < j → j ≤ lastH rs m → lastH rs j ≤ lastH rs m:=by
 intro m j hm h1 h2
 have hl:=h.len
 obtain ⟨i,rfl⟩:∃ i,j = i + 1:=⟨j - 1,by omega⟩
 unfold lastH at h2 ⊢
 rw [if_neg (by omega),Nat.add_sub_cancel]
 split at h2
 ·rename_i h0
  rw [if_pos h0]
  have:=h.ax.rng i (by omega)
  omega
 ·rename_i h0
  rw [if_neg h0]
  obtain ⟨q,rfl⟩:∃ q,m = q + 1:=⟨m - 1,by omega⟩
  rw [Nat.add_sub_cancel] at h2 ⊢
  have:=ax_nest h.ax q (by omega) i (by omega) (by omega)
  omega
theorem hiH (rs:List RN) (m:Nat):hiOf rs.length (lastR rs) ((m:Int) - 1) = lastH rs m:=by
 unfold hiOf lastH
 by_cases h0:m = 0
 ·subst h0;rfl
 ·rw [if_neg (by omega),if_neg h0]
  have:((m:Int) - 1).toNat = m - 1:=by omega
  rw [this]
theorem opI_le (m:Nat) (c:Int):opI hs m ≤ c ↔ 0 ≤ c ∧ (opI hs m = 1 → 1 ≤ c):=by
 have:opI hs m = 0 ∨ opI hs m = 1:=by unfold opI;split <;> simp
 rcases this with e | e <;> rw [e] <;> constructor <;> intro h <;> first | exact ⟨by omega,fun h2=>by omega⟩ | (obtain ⟨h1,h2⟩:=h;first | omega | exact h2 rfl)
theorem step_back (h:Lk hs rs) (ex:PX → List Int) (s:PS) (l:List Int) (h3:R3 l) (hx:∀ x ∈ s.wher,R3 (ex x)) (ha:0 ≤ s.axis ∧ s.axis ≤ 3):rowOf hs.length (stepV (metT ex hs s (rowOf hs.length fun _=>2)) l hs rs s.axis) = backT ex hs s l:=by
 have hlen:=h.len
 have hhe:∀ i,i < hs.length → (metT ex hs s l).getD i 0 = min ((metT ex hs s (rowOf hs.length fun _=>2)).getD i 0) (l.getD i 0):=by
  intro i hi
  have:=metT_min ex hs s l h3 hx i hi s.wher.length (Nat.le_refl _)
  rw [metK_all,met2_all] at this
  exact this
 have he3:R3 (metT ex hs s l):=metT_3 _ _ _ _
 have hel:(metT ex hs s l).length = hs.length:=metT_len ..
 unfold backT
 simp only
 generalize metT ex hs s (rowOf hs.length fun _=>2) = me at *
 generalize metT ex hs s l = he at *
 have hlist:∀ m,m < hs.length → ∀ x c,(x = 0 ∨ x = 1) → (accV me l (alongR rs.length (lastR rs) (parR rs) ((m:Int) - 1) x) ≤ c ↔ 0 ≤ c ∧ ∀ k,m < k → k ≤ lastH rs m → (x = 0 → parH hs k = m) → he.getD k 0 ≤ c):=by
  intro m hm x c hx01
  rw [accV_le]
  unfold alongR
  rw [if_neg (by omega),if_neg (by omega),List.nil_append,hiH rs m]
  have e0:((m:Int) - 1 + 1).toNat = m:=by omega
  rw [e0]
  constructor
  ·rintro ⟨a1,a2⟩
   refine ⟨a1,fun k k1 k2 k3=>?_⟩
   have hkg:=h.hg m k hm k1 k2
   rw [hhe k hkg.1]
   obtain ⟨i,rfl⟩:∃ i,k = i + 1:=⟨k - 1,by omega⟩
   have:=a2 (i:Int) (List.mem_filter.2 ⟨by
    unfold rngL
    exact List.mem_map.2 ⟨i,List.mem_range'_1.2 ⟨by omega,by omega⟩,rfl⟩,by
    unfold keepR
    rcases hx01 with rfl | rfl
    ·have hp:=h.par i (by omega)
     have hpl:=h.ax.plt i (by omega)
     have:=k3 rfl
     simp;omega
    ·simp⟩)
   have e1:((i:Int) + 1).toNat = i + 1:=by omega
   rw [e1] at this
   exact this
  ·rintro ⟨a1,a2⟩
   refine ⟨a1,fun v hv=>?_⟩
   obtain ⟨hv1,hv2⟩:=List.mem_filter.1 hv
   obtain ⟨i,rfl,k1,k2⟩:=rngL_mem hv1
   have hkg:=h.hg m (i + 1) hm (by omega) (by omega)
   have e1:((i:Int) + 1).toNat = i + 1:=by omega
   rw [e1,← hhe (i + 1) hkg.1]
   refine a2 (i + 1) (by omega) (by omega) (fun hx0=>?_)
   subst hx0
   unfold keepR at hv2
   simp at hv2
   have hp:=h.par i (by omega)
   omega
 by_cases a3:s.axis = 3
 ·rw [if_pos a3,a3]
  rw [← rowOf_self hs.length he hel]
  refine rowOf_congr fun m hm=>?_
  unfold stepV
  rw [if_neg (fun hh=>hh.1 rfl)]
  have e:alongR rs.length (lastR rs) (parR rs) ((m:Int) - 1) 3 = [(m:Int) - 1]:=by
   unfold alongR
   rw [if_neg (by omega),if_pos (.inr rfl),filt_none (fun x _=>by unfold keepR;simp),List.append_nil]
  rw [e]
  have e0:((m:Int) - 1 + 1).toNat = m:=by omega
  unfold accV
  rw [List.foldl_cons,List.foldl_nil,e0,← hhe m hm]
  have:=he3.at m
  unfold T3 at this
  omega
 have hdeep:=fun c m (hm:m < hs.length)=>deep_le hs he he3 h.parlt (lastH rs) h.hc h.hg h.hn h.opn c (hs.length - m) m (by omega) hm
 obtain ⟨_,hd3,hd1,hd2⟩:=cdAll_ok hs he (hs.length - 1) 1 (by omega)
 rw [if_neg a3]
 by_cases a0:s.axis = 0
 ·rw [if_pos a0,a0,← rowOf_self hs.length (cdAll hs he 1).1 hd1]
  refine rowOf_congr fun m hm=>eq_of_le_iff fun c=>?_
  rw [(cd_le hs he he3 h.parlt c (hs.length - 1) 1 (by omega) (Nat.le_refl _) m hm).1,opI_le]
  have hl:=hlist m hm 0 c (.inl rfl)
  unfold stepV
  have hfa:(∀ k,m < k → k ≤ lastH rs m → ((0:Int) = 0 → parH hs k = m) → he.getD k 0 ≤ c) ↔ ∀ k,1 ≤ k → k < hs.length → parH hs k = m → he.getD k 0 ≤ c:=by
   constructor
   ·intro q k k1 k2 k3
    have g1:=h.parlt k k1 k2
    have g2:=h.hc k k1 k2
    rw [k3] at g1 g2
    exact q k g1 g2 (fun _=>k3)
   ·intro q k k1 k2 k3
    exact q k (by omega) (h.hg m k hm k1 k2).1 (k3 rfl)
  rw [hfa] at hl
  by_cases ho:opI hs m = 1
  ·rw [if_pos ⟨by decide,ho⟩,Int.max_le,hl]
   exact ⟨fun ⟨⟨q1,q2⟩,q3⟩=>⟨⟨q1,fun _=>q3⟩,q2⟩,fun ⟨⟨q1,q2⟩,q3⟩=>⟨⟨q1,q3⟩,q2 ho⟩⟩
  ·rw [if_neg (fun hh=>ho hh.2),hl]
   exact ⟨fun ⟨q1,q2⟩=>⟨⟨q1,fun hh=>absurd hh ho⟩,q2⟩,fun ⟨⟨q1,q2⟩,q3⟩=>⟨q1,q3⟩⟩
 rw [if_neg a0]
 by_cases a2:s.axis = 2
 ·rw [if_pos a2,a2]
  refine rowOf_congr fun m hm=>eq_of_le_iff fun c=>?_
  rw [orL2_le (hd3.at m) (he3.at m),hdeep c m hm,opI_le]
  have hl:=hlist m hm 1 c (.inr rfl)
  have e2:alongR rs.length (lastR rs) (parR rs) ((m:Int) - 1) 2 = ((m:Int) - 1) :: alongR rs.length (lastR rs) (parR rs) ((m:Int) - 1) 1:=by
   have eL:alongR rs.length (lastR rs) (parR rs) ((m:Int) - 1) 2 = [(m:Int) - 1] ++ (rngL ((m:Int) - 1 + 1).toNat (hiOf rs.length (lastR rs) ((m:Int) - 1))).filter (keepR (parR rs) ((m:Int) - 1) 2):=by
    unfold alongR
    rw [if_neg (by omega),if_pos (.inl rfl)]
   have eR:alongR rs.length (lastR rs) (parR rs) ((m:Int) - 1) 1 = (rngL ((m:Int) - 1 + 1).toNat (hiOf rs.length (lastR rs) ((m:Int) - 1))).filter (keepR (parR rs) ((m:Int) - 1) 1):=by
    unfold alongR
    rw [if_neg (by omega),if_neg (by omega),List.nil_append]
   have:∀ l':List Int,l'.filter (keepR (parR rs) ((m:Int) - 1) 2) = l'.filter (keepR (parR rs) ((m:Int) - 1) 1):=fun l'=>List.filter_congr fun x _=>by unfold keepR;simp
   rw [eL,eR,this];rfl
  have hl2:accV me l (alongR rs.length (lastR rs) (parR rs) ((m:Int) - 1) 2) ≤ c ↔ he.getD m 0 ≤ c ∧ (0 ≤ c ∧ ∀ k,m < k → k ≤ lastH rs m → he.getD k 0 ≤ c):=by
   have e0:((m:Int) - 1 + 1).toNat = m:=by omega
   rw [e2,accV_le]
   have hl3:=hl
   rw [accV_le] at hl3
   constructor
   ·rintro ⟨q1,q2⟩
    have q3:=q2 _ List.mem_cons_self
    rw [e0,← hhe m hm] at q3
    have q4:=hl3.1 ⟨q1,fun v hv=>q2 v (List.mem_cons_of_mem _ hv)⟩
    exact ⟨q3,q1,fun k k1 k2=>q4.2 k k1 k2 (fun hh=>by cases hh)⟩
   ·rintro ⟨q3,q1,q2⟩
    have q4:=hl3.2 ⟨q1,fun k k1 k2 _=>q2 k k1 k2⟩
    refine ⟨q1,fun v hv=>?_⟩
    rcases List.mem_cons.1 hv with rfl | hv
    ·rw [e0,← hhe m hm];exact q3
    ·exact q4.2 v hv
  unfold stepV
  by_cases ho:opI hs m = 1
  ·rw [if_pos ⟨by decide,ho⟩,Int.max_le,hl2]
   exact ⟨fun ⟨⟨q0,q1,q2⟩,q3⟩=>⟨⟨⟨q1,fun _=>q3⟩,q2⟩,q0⟩,fun ⟨⟨⟨q1,q2⟩,q3⟩,q0⟩=>⟨⟨q0,q1,q3⟩,q2 ho⟩⟩
  ·rw [if_neg (fun hh=>ho hh.2),hl2]
   exact ⟨fun ⟨q0,q1,q2⟩=>⟨⟨⟨q1,fun hh=>absurd hh ho⟩,q2⟩,q0⟩,fun ⟨⟨⟨q1,q2⟩,q3⟩,q0⟩=>⟨q0,q1,q3⟩⟩
 ·have a1:s.axis = 1:=by omega
  rw [if_neg a2,a1,← rowOf_self hs.length (cdAll hs he 1).2 hd2]
  refine rowOf_congr fun m hm=>eq_of_le_iff fun c=>?_
  rw [hdeep c m hm,opI_le]
  have hl:=hlist m hm 1 c (.inr rfl)
  have hfa:(∀ k,m < k → k ≤ lastH rs m → ((1:Int) = 0 → parH hs k = m) → he.getD k 0 ≤ c) ↔ ∀ k,m < k → k ≤ lastH rs m → he.getD k 0 ≤ c :=
   ⟨fun q k k1 k2=>q k k1 k2 (fun hh=>by cases hh),fun q k k1 k2 _=>q k k1 k2⟩
  rw [hfa] at hl
  unfold stepV
  by_cases ho:opI hs m = 1
  ·rw [if_pos ⟨by decide,ho⟩,Int.max_le,hl]
   exact ⟨fun ⟨⟨q1,q2⟩,q3⟩=>⟨⟨q1,fun _=>q3⟩,q2⟩,fun ⟨⟨q1,q2⟩,q3⟩=>⟨⟨q1,q3⟩,q2 ho⟩⟩
  ·rw [if_neg (fun hh=>ho hh.2),hl]
   exact ⟨fun ⟨q1,q2⟩=>⟨⟨q1,fun hh=>absurd hh ho⟩,q2⟩,fun ⟨⟨q1,q2⟩,q3⟩=>⟨q1,q3⟩⟩
end
end Go.Proofs.YtgjokdngbocehaaGreatDoor
