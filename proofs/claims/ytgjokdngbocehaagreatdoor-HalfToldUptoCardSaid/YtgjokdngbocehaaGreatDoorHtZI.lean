/-
  The answer's Expr of And, Or, Not.
-/
import Derived.Test.YtgjokdngbocehaaGreatDoorHtA
import Derived.Test.YtgjokdngbocehaaGreatDoorHtD
import Derived.Test.YtgjokdngbocehaaGreatDoorHtE
import Derived.Test.YtgjokdngbocehaaGreatDoorHtF
import Derived.Test.YtgjokdngbocehaaGreatDoorHtG
import Derived.Test.YtgjokdngbocehaaGreatDoorHtI
import Derived.Test.YtgjokdngbocehaaGreatDoorHtJ
import Derived.Test.YtgjokdngbocehaaGreatDoorHtL
import Derived.Test.YtgjokdngbocehaaGreatDoorHtM
import Derived.Test.YtgjokdngbocehaaGreatDoorHtR
import Derived.Test.YtgjokdngbocehaaGreatDoorHtV
import Derived.Test.YtgjokdngbocehaaGreatDoorHtY
import Derived.Test.YtgjokdngbocehaaGreatDoorHtZA
import Derived.Test.YtgjokdngbocehaaGreatDoorHtZB
import Derived.Test.YtgjokdngbocehaaGreatDoorHtZC
import Derived.Test.YtgjokdngbocehaaGreatDoorHtZD
import Derived.Test.YtgjokdngbocehaaGreatDoorHtZE
import Derived.Test.YtgjokdngbocehaaGreatDoorHtZF
import Derived.Test.YtgjokdngbocehaaGreatDoorHtZG
import Derived.Test.YtgjokdngbocehaaGreatDoorHtZH
namespace Go.Proofs.YtgjokdngbocehaaGreatDoor
open Go.RowKit
def eK (hs:List HN) (f:Nat) (x:PX) (j k:Nat):Int :=
 if x.op = 0 then andL ((x.args.take j).map fun y=>(exprT hs f y).getD k 0) else if x.op = 1 then orL ((x.args.take j).map fun y=>(exprT hs f y).getD k 0) else match x.args[j - 1]?,j with
  | some y,_ + 1=>2 - (exprT hs f y).getD k 0
  | _,_=>0
theorem eK_zero (hs:List HN) (f:Nat) (x:PX) (k:Nat):eK hs f x 0 k = truthI (decide (x.op = 0)):=by
 unfold eK
 rw [List.take_zero]
 by_cases h0:x.op = 0
 ·rw [if_pos h0,decide_eq_true h0];rfl
 ·rw [if_neg h0,decide_eq_false h0]
  by_cases h1:x.op = 1
  ·rw [if_pos h1];rfl
  ·rw [if_neg h1]
   cases x.args[0 - 1]? <;> rfl
theorem andL_snoc (l:List Int) (t:Int) (h:T3 t):andL (l ++ [t]) = min (andL l) t:=by unfold andL;rw [List.foldl_append];simp only [List.foldl_cons,List.foldl_nil,seenI_of h]
theorem orL_snoc (l:List Int) (t:Int) (h:T3 t):orL (l ++ [t]) = max (orL l) t:=by unfold orL;rw [List.foldl_append];simp only [List.foldl_cons,List.foldl_nil,seenI_of h]
theorem eK_succ (hs:List HN) (f:Nat) (x:PX) (j k:Nat) (hj:j < x.args.length) (h3:R3 (exprT hs f x.args[j])):eK hs f x (j + 1) k = if x.op = 0 then min (eK hs f x j k) ((exprT hs f x.args[j]).getD k 0) else if x.op = 1 then max (eK hs f x j k) ((exprT hs f x.args[j]).getD k 0) else 2 - (exprT hs f x.args[j]).getD k 0:=by
 unfold eK
 rw [List.take_succ_eq_append_getElem hj,List.map_append]
 simp only [List.map_cons,List.map_nil]
 by_cases h0:x.op = 0
 ·rw [if_pos h0,if_pos h0,if_pos h0,andL_snoc _ _ (h3.at k)]
 ·rw [if_neg h0,if_neg h0,if_neg h0]
  by_cases h1:x.op = 1
  ·rw [if_pos h1,if_pos h1,if_pos h1,orL_snoc _ _ (h3.at k)]
  ·rw [if_neg h1,if_neg h1,Nat.add_sub_cancel,List.getElem?_eq_getElem hj]
theorem eK_all (hs:List HN) (f:Nat) (x:PX) (hop:x.op = 0 ∨ x.op = 1 ∨ x.op = 2 ∧ x.args.length = 1) (h3:∀ y ∈ x.args,R3 (exprT hs f y)):rowOf hs.length (eK hs f x x.args.length) = exprT hs (f + 1) x:=by
 rw [exprT_else hs f x (by omega)]
 refine rowOf_congr fun k _=>?_
 unfold eK gathT
 rw [List.take_length,List.map_map]
 by_cases h0:x.op = 0
 ·rw [if_pos h0,if_pos h0];rfl
 ·rw [if_neg h0,if_neg h0]
  by_cases h1:x.op = 1
  ·rw [if_pos h1,if_pos h1];rfl
  ·rw [if_neg h1,if_neg h1]
   have hl:x.args.length = 1:=by omega
   obtain ⟨y,hy⟩:∃ y,x.args = [y]:=by
    cases hx:x.args with
    | nil=>rw [hx] at hl;cases hl
    | cons y l=>cases l with
     | nil=>exact ⟨y,rfl⟩
     | cons z l=>rw [hx] at hl;simp at hl
   have hT:=(h3 y (by rw [hy];exact List.mem_cons_self)).at k
   rw [hy]
   show 2 - (exprT hs f y).getD k 0 = notI ((exprT hs f y).getD k 0)
   unfold notI
   rw [seenI_of hT]
set_option maxRecDepth 100000 in
set_option maxHeartbeats 8000000 in
theorem expr15Else_any {an:Option Addr} {cn:Nat} {clo:Bool} {evs:List Ev} {hs:List HN} {rs:List RN} {f:Nat} (HX:ExR an cn clo evs hs rs f) (x:PX) (aa:Option Addr) (ac:Nat) (pa:Option Addr) (pc:Nat) (w:World) (h:RD w an clo evs hs rs) (hx:XsAt f w aa x.args) (hal:x.args.length ≤ 1048576) (hg:x.args.all (goodXB f) = true) (hop:x.op = 0 ∨ x.op = 1 ∨ x.op = 2 ∧ x.args.length = 1) :
  Calls Tryz.prog 36 #[.agg #[.slice an rs.length cn,.bool clo],.agg (exprC x aa ac pa pc).toArray] w fun e w'=>∃ P,e = .returned (.slice (some ⟨P,0,none⟩) hs.length hs.length) ∧ w.heap.size ≤ P ∧ TsAt w' (some ⟨P,0,none⟩) hs.length (exprT hs (f + 1) x) ∧ Below w.heap.size w w':=by
 obtain ⟨i0,hi,hz0,hz1,hz2⟩:=info_parts infoInt
 obtain ⟨q,hq⟩:∃ q,x.args.length = q:=⟨_,rfl⟩
 obtain ⟨opv,hopv⟩:∃ o,x.op = o:=⟨_,rfl⟩
 have hXV:(exprC x aa ac pa pc).toArray = #[.int .i64 opv,.slice aa q ac,.slice pa x.path.length pc,.string (strL x.attr),.int .i64 x.cmp,.string (strL x.text),.int .i64 x.num]:=by unfold exprC;rw [hq,hopv]
 rw [hXV]
 obtain ⟨L,hL⟩:∃ L,rs.length = L:=⟨_,rfl⟩
 obtain ⟨N,hN⟩:∃ N,hs.length = N:=⟨_,rfl⟩
 have hNL:N = L + 1:=by rw [← hL,← hN];exact h.len
 have hcap:L ≤ 400:=by rw [← hL];exact h.cap
 obtain ⟨W0,hW0⟩:∃ W0,W0 = (w.alloc (.cells #[.slice an L cn,.bool clo] 90)).alloc (.cells #[.int .i64 opv,.slice aa q ac,.slice pa x.path.length pc,.string (strL x.attr),.int .i64 x.cmp,.string (strL x.text),.int .i64 x.num] 42):=⟨_,rfl⟩
 have hb0:Below w.heap.size w W0:=by rw [hW0];exact ((Below.refl w.heap.size w).alloc (Nat.le_refl _) _).alloc (by simp) _
 have hsz0:W0.heap.size = w.heap.size + 2:=by rw [hW0];simp
 have hk0:W0.heap[w.heap.size]? = some (.cells #[.slice an L cn,.bool clo] 90 (0,0)):=by
  rw [hW0,Below.heap_alloc _ _ _ (by simp)];exact heap_alloc_new w _
 have hk1:W0.heap[w.heap.size + 1]? = some (.cells #[.int .i64 opv,.slice aa q ac,.slice pa x.path.length pc,.string (strL x.attr),.int .i64 x.cmp,.string (strL x.text),.int .i64 x.num] 42 (0,0)):=by
  rw [hW0];exact alloc_atR _ _ (by simp)
 have HKS:Hid (∀ W,Below W0.heap.size W0 W → W.cell? ⟨w.heap.size,0,none⟩ = some (.slice an L cn) ∧ W.cell? ⟨w.heap.size,1,none⟩ = some (.bool clo) ∧ W.cell? ⟨w.heap.size + 1,0,none⟩ = some (.int .i64 opv) ∧ W.cell? ⟨w.heap.size + 1,1,none⟩ = some (.slice aa q ac) ∧ W.cell? ⟨w.heap.size + 1,2,none⟩ = some (.slice pa x.path.length pc) ∧ W.cell? ⟨w.heap.size + 1,3,none⟩ = some (.string (strL x.attr)) ∧ W.cell? ⟨w.heap.size + 1,4,none⟩ = some (.int .i64 x.cmp) ∧ W.cell? ⟨w.heap.size + 1,5,none⟩ = some (.string (strL x.text)) ∧ W.cell? ⟨w.heap.size + 1,6,none⟩ = some (.int .i64 x.num)):=Lib.hid fun W hW=>by
  have g0:=(hW.block w.heap.size (by omega)).trans hk0
  have g1:=(hW.block (w.heap.size + 1) (by omega)).trans hk1
  exact ⟨by rw [cell_heap g0];rfl,by rw [cell_heap g0];rfl,by rw [cell_heap g1];rfl,by rw [cell_heap g1];rfl,by rw [cell_heap g1];rfl,by rw [cell_heap g1];rfl,by rw [cell_heap g1];rfl,by rw [cell_heap g1];rfl,by rw [cell_heap g1];rfl⟩
 have FIN:Hid (∀ W,Below W0.heap.size W0 W → Below w.heap.size w W ∧ w.heap.size ≤ W0.heap.size):=Lib.hid fun W hW=>⟨hb0.trans (hW.mono hb0.size),hb0.size⟩
 have hp1:1 ≤ hs.length:=by omega
 have HW3:Hid (∀ k (hk:k < x.args.length),goodXB f x.args[k] = true ∧ R3 (exprT hs f x.args[k])):=Lib.hid fun k hk=>by
  have hgx:=List.all_eq_true.1 hg _ (List.getElem_mem hk)
  refine ⟨hgx,?_⟩
  cases f with
  | zero=>cases hgx
  | succ f=>exact (exprT_ok hs hp1 f _).1
 have HFIN:Hid (rowOf N (eK hs f x q) = exprT hs (f + 1) x):=Lib.hid (by
  rw [← hN,← hq]
  exact eK_all hs f x hop fun y hy=>by
   obtain ⟨k,hk,rfl⟩:=List.getElem_of_mem hy
   exact (HW3.out k hk).2)
 have HSS:Hid (∀ W,Below W0.heap.size W0 W → XsAt f W aa x.args):=Lib.hid fun W hW=>XsAt.below hx (FIN.out W hW).1
 have HRD:Hid (∀ W,Below W0.heap.size W0 W → RD W an clo evs hs rs):=Lib.hid fun W hW=>h.below (FIN.out W hW).1
 have HEX:=Lib.hid HX
 have HTR:=Lib.hid truth15_any
 have HAN:=Lib.hid and15_any
 have HOR:=Lib.hid or15_any
 obtain ⟨R,hR⟩:∃ R,exprT hs (f + 1) x = R:=⟨_,rfl⟩
 rw [hR] at HFIN
 rw [hR,hN,hL]
 have HMK:Hid (∀ w1,w1.ownsRow ((w.alloc (.cells #[.slice an L cn,.bool clo] 90)).alloc (.cells #[.int .i64 opv,.slice aa q ac,.slice pa x.path.length pc,.string (strL x.attr),.int .i64 x.cmp,.string (strL x.text),.int .i64 x.num] 42)).heap.size 3 1 (.slice (some ⟨((w.alloc (.cells #[.slice an L cn,.bool clo] 90)).alloc (.cells #[.int .i64 opv,.slice aa q ac,.slice pa x.path.length pc,.string (strL x.attr),.int .i64 x.cmp,.string (strL x.text),.int .i64 x.num] 42)).heap.size,0,none⟩) N N) N (madeCells (Value.int .i64 0).cells (N * 1)).toList → ((w.alloc (.cells #[.slice an L cn,.bool clo] 90)).alloc (.cells #[.int .i64 opv,.slice aa q ac,.slice pa x.path.length pc,.string (strL x.attr),.int .i64 x.cmp,.string (strL x.text),.int .i64 x.num] 42)).grownBy w1 none → MJ W0 (w.heap.size + 1 + 1) N (List.replicate N 0) w1):=Lib.hid (by
  rw [← hW0]
  intro w1 hown hgr
  have:=MJ.made (w:=W0) (Below.refl _ _) hown hgr
  rw [hsz0] at this
  exact this)
 have HQ:=Lib.hid hq
 have HL0:=Lib.hid hL
 have HN0:=Lib.hid hN
 have HNI:Hid ((L:Int) + 1 = (N:Int)):=Lib.hid (by omega)
 have hNb:N ≤ 401:=by omega
 have hqb:q ≤ 1048576:=by rw [← hq];exact hal
 have t3:((opv:Int) == 3) = false:=by simp;omega
 have HOPX:Hid (opv = 0 ∨ opv = 1 ∨ opv = 2):=Lib.hid (by omega)
 have HOPE:=Lib.hid hopv
 clear hR hb0 hsz0 hk0 hk1 hW0 h hx hal hg hop HX hL hN hNL hXV hq hp1 hopv
 go_enter Tryz.func36,Tryz.ntmps36
 go_wp2_with (at_make;go_must ((refine wpList_make_full ((w.alloc (.cells #[.slice an L cn,.bool clo] 90)).alloc (.cells #[.int .i64 opv,.slice aa q ac,.slice pa x.path.length pc,.string (strL x.attr),.int .i64 x.cmp,.string (strL x.text),.int .i64 x.num] 42)) (by rfl) _ _ 66 (by rfl) ((w.alloc (.cells #[.slice an L cn,.bool clo] 90)).alloc (.cells #[.int .i64 opv,.slice aa q ac,.slice pa x.path.length pc,.string (strL x.attr),.int .i64 x.cmp,.string (strL x.text),.int .i64 x.num] 42)).heap.size 3 i0 _ 1 Tryz.underlying66 hi hz0 hz1 .i64 .i64 ((L:Int) + 1) ((L:Int) + 1) N (by rfl) (by rfl) HNI.out HNI.out (by rw [hz2];omega) (by unfold maxLen;omega) (Nat.le_refl _) (fun w1 hown hgr=>?_));have HMJ:=Lib.hid (HMK.out w1 hown hgr);have hbm:=HMJ.out.old;have hx0:=(HKS.out w1 hbm).2.2.1))
 clear hown hgr HMK
 generalize w.heap.size + 1 + 1 = P at *
 have HB00:Hid (w.heap.size ≤ P):=Lib.hid (by have:=HMJ.out.lo;have:=(FIN.out W0 (Below.refl _ _)).2;omega)
 go_loopw [8] (fun iv wr=>∃ k:Nat,iv = .int .i64 k ∧ k ≤ N ∧ Hid (MJ W0 P N (mixR N k (eK hs f x 0) (fun _=>0)) wr)) (fun iv _=>N - (intOf iv).toNat)
 case atStart=>exact ⟨0,rfl,Nat.zero_le _,Lib.hid (by rw [← rep_mix];exact HMJ.out)⟩
 case round =>
  obtain ⟨k,rfl,hk,HM⟩:=hrel
  obtain ⟨p0,p1,p2,p3,p4,p5,p6,p7,p8⟩:=HKS.out wr HM.out.old
  by_cases hkn:k < N
  ·have HNX:Hid (MJ W0 P N (mixR N (k + 1) (eK hs f x 0) (fun _=>0)) (wr.setCell ⟨P,k,none⟩ (.int .i64 (truthI (decide (opv = 0)))))):=Lib.hid (by
    have h2:=HM.out.set k (truthI (decide (opv = 0)))
    rwa [mixR_set _ _ _ _ _ (by rw [← HOPE.out];exact (eK_zero hs f x k).symm)] at h2)
   have z1:=HM.out.at k hkn
   generalize (mixR N k (eK hs f x 0) (fun _=>0)).getD k 0 = zz at z1
   have f1:=HM.out.frozen k
   have l1:=HM.out.lt
   have HTD:Hid (∀ W:World,Calls Tryz.prog 69 #[.bool (opv == 0)] W fun e w'=>e = .returned (.int .i64 (truthI (decide (opv = 0)))) ∧ w' = W):=Lib.hid fun W=>by
    have:(opv == 0) = decide (opv = 0):=by by_cases h:opv = 0 <;> simp [h]
    rw [this];exact HTR.out _ W
   have i1:(0:Int) ≤ (k:Int):=by omega
   have i2:(k:Int) < (N:Int):=by omega
   have ewk:IntKind.i64.wrap ((k:Int) + 1) = (k:Int) + 1:=IntWalk.i64_in _ (by omega)
   generalize truthI (decide (opv = 0)) = tv at *
   go_wp2_with fail
   (with_reducible refine (HTD.out _).mono ?_)
   rintro e w5 ⟨rfl,rfl⟩
   go_wp2_with fail
   go_roundw
   case rel=>exact ⟨k + 1,by go_num,by omega,HNX⟩
   case measure=>simp [intOf];omega
  ·have hk2:k = N:=by omega
   have HM2:Hid (MJ W0 P N (rowOf N (eK hs f x 0)) wr):=Lib.hid (by have:=HM.out;rw [hk2,mixR_all] at this;exact this)
   have hjl:(N:Int) ≤ (k:Int):=by omega
   clear HM hk2
   go_wp2_with fail
   go_loopw [9] (fun jv wr=>∃ j:Nat,jv = .int .i64 j ∧ j ≤ q ∧ Hid (MJ W0 P N (rowOf N (eK hs f x j)) wr)) (fun jv _=>q - (intOf jv).toNat)
   case atStart=>exact ⟨0,rfl,Nat.zero_le _,HM2⟩
   case round =>
    obtain ⟨j,rfl,hj,HJ⟩:=hrel
    obtain ⟨p0,p1,p2,p3,p4,p5,p6,p7,p8⟩:=HKS.out wr HJ.out.old
    by_cases hjq:j < q
    ·have hjl2:j < x.args.length:=by rw [HQ.out];exact hjq
     have hget:=(HSS.out wr HJ.out.old).get' j hjl2
     obtain ⟨b,o,aa',ac',pa',pc',rfl,hbl,hxa,hcs⟩:=hget
     obtain ⟨x0,x1,x2,x3,x4,x5,x6⟩:=hcs wr (Below.refl _ _)
     have HEJ:Hid (Calls Tryz.prog 36 #[.agg #[.slice an L cn,.bool clo],.agg #[.int .i64 x.args[j].op,.slice aa' x.args[j].args.length ac',.slice pa' x.args[j].path.length pc',.string (strL x.args[j].attr),.int .i64 x.args[j].cmp,.string (strL x.args[j].text),.int .i64 x.args[j].num]] wr.drew fun e w'=>∃ P2,e = .returned (.slice (some ⟨P2,0,none⟩) N N) ∧ wr.heap.size ≤ P2 ∧ TsAt w' (some ⟨P2,0,none⟩) N (exprT hs f x.args[j]) ∧ Below wr.heap.size wr w'):=Lib.hid (by
      have hd:Below wr.heap.size wr wr.drew:=(Below.refl wr.heap.size wr).drew
      have hbd:Below W0.heap.size W0 wr.drew:=HJ.out.old.trans (hd.mono HJ.out.old.size)
      have h9:=HEX.out x.args[j] (exprC x.args[j] aa' ac' pa' pc') wr.drew (HRD.out _ hbd) (XAt.turn hd (Nat.le_refl _) hxa) (HW3.out j hjl2).1
      rw [HL0.out,HN0.out] at h9
      exact h9.mono fun e w' ⟨P2,g1,g2,g3,g4⟩=>⟨P2,g1,g2,g3,hd.trans (g4.mono (Nat.le_refl _))⟩)
     have HSU:Hid (∀ k,eK hs f x (j + 1) k = if opv = 0 then min (eK hs f x j k) ((exprT hs f x.args[j]).getD k 0) else if opv = 1 then max (eK hs f x j k) ((exprT hs f x.args[j]).getD k 0) else 2 - (exprT hs f x.args[j]).getD k 0):=Lib.hid fun k=>by rw [← HOPE.out];exact eK_succ hs f x j k hjl2 (HW3.out j hjl2).2
     have HT3:Hid (∀ k,T3 ((exprT hs f x.args[j]).getD k 0)):=Lib.hid fun k=>(HW3.out j hjl2).2.at k
     have HPLT:=HJ.out.lt
     clear hcs hxa hbl
     generalize x.args[j]'hjl2 = y at *
     generalize exprT hs f y = EX at *
     have i1:(0:Int) ≤ (j:Int):=by omega
     have i2:(j:Int) < (q:Int):=by omega
     have ewj:IntKind.i64.wrap ((j:Int) + 1) = (j:Int) + 1:=IntWalk.i64_in _ (by omega)
     go_upto_region 19 with fail
     go_cut [10] from 74 to 80 (fun s10 wx=>∃ P2,s10 = .slice (some ⟨P2,0,none⟩) N N ∧ P ≠ P2 ∧ Hid (TsAt wx (some ⟨P2,0,none⟩) N EX ∧ MJ W0 P N (rowOf N (eK hs f x j)) wx))
     case first =>
      go_region_with (first | (go_at_call 36;(with_reducible refine HEJ.out.mono ?_);rintro e w6 ⟨P2,rfl,hP2,hT2,hb6⟩;have HC6:=Lib.hid (⟨hP2,hT2,hb6⟩:_ ∧ _ ∧ _);clear hP2 hT2 hb6))
      all_goals
       go_wp2_with fail
       (try simp only [Act.put,List.getElem_toArray,List.getElem_cons_succ,List.getElem_cons_zero,List.setIfInBounds_toArray,List.set_cons_zero,List.set_cons_succ])
       go_meet
       case rel=>exact ⟨_,rfl,by have:=HC6.out.1;omega,Lib.hid ⟨HC6.out.2.1,HJ.out.below HC6.out.2.2⟩⟩
     case rest =>
      obtain ⟨P2,rfl,hPP,HC⟩:=hcut
      have HC0:Hid (TsAt wc (some ⟨P2,0,none⟩) N EX ∧ MJ W0 P N (mixR N 0 (eK hs f x (j + 1)) (eK hs f x j)) wc):=Lib.hid ⟨HC.out.1,by rw [mixR_zero];exact HC.out.2⟩
      clear HC HEJ HJ x0 x1 x2 x3 x4 x5 x6 HPLT p0 p1 p2 p3 p4 p5 p6 p7 p8
      go_wp2_with fail
      go_loopw [11] (fun iv wr=>∃ i:Nat,iv = .int .i64 i ∧ i ≤ N ∧ Hid (TsAt wr (some ⟨P2,0,none⟩) N EX ∧ MJ W0 P N (mixR N i (eK hs f x (j + 1)) (eK hs f x j)) wr)) (fun iv _=>N - (intOf iv).toNat)
      case atStart=>exact ⟨0,rfl,Nat.zero_le _,HC0⟩
      case round =>
       obtain ⟨i,rfl,hiN,HI⟩:=hrel
       have ewi:IntKind.i64.wrap ((i:Int) + 1) = (i:Int) + 1:=IntWalk.i64_in _ (by omega)
       by_cases hin:i < N
       ·obtain ⟨p0,p1,p2,p3,p4,p5,p6,p7,p8⟩:=HKS.out wr HI.out.2.old
        obtain ⟨z1,l1⟩:=HI.out.1.at0 i hin
        have z2:wr.cell? ⟨P,i,none⟩ = some (.int .i64 (eK hs f x j i)):=by
         have h1:=HI.out.2.at i hin
         rwa [List.getD_eq_getElem?_getD,mixR_get _ _ _ _ _ hin (Nat.le_refl _),Option.getD_some] at h1
        have f2:=HI.out.2.frozen i
        have l2:=HI.out.2.lt
        have HNX:Hid (∀ v,v = eK hs f x (j + 1) i → TsAt (wr.setCell ⟨P,i,none⟩ (.int .i64 v)) (some ⟨P2,0,none⟩) N EX ∧ MJ W0 P N (mixR N (i + 1) (eK hs f x (j + 1)) (eK hs f x j)) (wr.setCell ⟨P,i,none⟩ (.int .i64 v))):=Lib.hid fun v hv=>⟨HI.out.1.far (fun ad e=>by cases e;exact fun e=>hPP e.symm) _,by
         have h1:=HI.out.2.set i v
         rwa [mixR_set _ _ _ _ _ hv] at h1⟩
        have HSI:=Lib.hid (HSU.out i)
        have ht3:=HT3.out i
        have HAD:Hid (Calls Tryz.prog 62 #[.int .i64 (eK hs f x j i),.int .i64 (EX.getD i 0)] wr.drew fun e w'=>e = .returned (.int .i64 (min (eK hs f x j i) (EX.getD i 0))) ∧ w' = wr.drew):=Lib.hid (HAN.out _ _ _)
        have HOD:Hid (Calls Tryz.prog 61 #[.int .i64 (eK hs f x j i),.int .i64 (EX.getD i 0)] wr.drew fun e w'=>e = .returned (.int .i64 (max (eK hs f x j i) (EX.getD i 0))) ∧ w' = wr.drew):=Lib.hid (HOR.out _ _ _)
        generalize eK hs f x (j + 1) i = nv at *
        generalize eK hs f x j i = v1 at *
        generalize EX.getD i 0 = v2 at *
        have k1:(0:Int) ≤ (i:Int):=by omega
        have k2:(i:Int) < (N:Int):=by omega
        have ew2:IntKind.i64.wrap (2 - v2) = 2 - v2:=IntWalk.i64_in _ (by unfold T3 at ht3;omega)
        clear ht3 HI
        rcases HOPX.out with rfl | rfl | rfl
        ·have HF:Hid (min v1 v2 = nv):=Lib.hid (by have:=HSI.out;rw [if_pos rfl] at this;exact this.symm)
         have HE:=Lib.hid (HNX.out _ HF.out)
         clear HSI HNX HF
         generalize min v1 v2 = v3 at *
         go_wp2_with fail
         refine wp_region_still_tail 12 (by kernel_rfl) (by kernel_rfl) ?_
         change wpStill _ _ wr.drew (fun a'=>wpList _ _ _ _ a' wr.drew) _ _
         simp only [List.take_succ_cons,List.take_zero,List.drop_succ_cons,List.drop_zero]
         repeat still_step
         still_call HAD.out
         still_step
         refine wpStill_nil ?_
         go_wp2_with fail
         go_roundw
         case rel=>exact ⟨i + 1,by go_num,by omega,Lib.hid ⟨HE.out.1.below ((Below.refl _ _).drew),HE.out.2.below ((Below.refl _ _).drew)⟩⟩
         case measure=>simp [intOf];omega
        ·have HF:Hid (max v1 v2 = nv):=Lib.hid (by have:=HSI.out;rw [if_neg (by decide),if_pos rfl] at this;exact this.symm)
         have HE:=Lib.hid (HNX.out _ HF.out)
         clear HSI HNX HF
         generalize max v1 v2 = v3 at *
         go_wp2_with fail
         refine wp_region_still_tail 12 (by kernel_rfl) (by kernel_rfl) ?_
         change wpStill _ _ wr.drew (fun a'=>wpList _ _ _ _ a' wr.drew) _ _
         simp only [List.take_succ_cons,List.take_zero,List.drop_succ_cons,List.drop_zero]
         repeat still_step
         still_call HOD.out
         still_step
         refine wpStill_nil ?_
         go_wp2_with fail
         go_roundw
         case rel=>exact ⟨i + 1,by go_num,by omega,Lib.hid ⟨HE.out.1.below ((Below.refl _ _).drew),HE.out.2.below ((Below.refl _ _).drew)⟩⟩
         case measure=>simp [intOf];omega
        ·have HF:Hid (2 - v2 = nv):=Lib.hid (by have:=HSI.out;rw [if_neg (by decide),if_neg (by decide)] at this;exact this.symm)
         have HE:=Lib.hid (HNX.out _ HF.out)
         clear HSI HNX HF HAD HOD
         go_wp2_with fail
         go_roundw
         case rel=>exact ⟨i + 1,by go_num,by omega,HE⟩
         case measure=>simp [intOf];omega
       ·have hi2:i = N:=by omega
        have HE:Hid (MJ W0 P N (rowOf N (eK hs f x (j + 1))) wr):=Lib.hid (by have:=HI.out.2;rw [hi2,mixR_all] at this;exact this)
        have k2:(N:Int) ≤ (i:Int):=by omega
        clear HI
        go_wp2_with fail
        go_roundw
        case rel=>exact ⟨j + 1,by go_num,by omega,HE⟩
        case measure=>simp [intOf];omega
    ·have hj2:j = q:=by omega
     have HF:Hid (TsAt wr (some ⟨P,0,none⟩) N R ∧ Below w.heap.size w wr):=Lib.hid ⟨by have:=HJ.out.ts;rw [hj2,HFIN.out] at this;exact this,(FIN.out wr HJ.out.old).1⟩
     have hjq2:(q:Int) ≤ (j:Int):=by omega
     clear HJ
     go_wp2_with fail
     go_ret
     exact ⟨P,rfl,HB00.out,HF.out.1,HF.out.2⟩
end Go.Proofs.YtgjokdngbocehaaGreatDoor
namespace Go.Proofs.YtgjokdngbocehaaGreatDoor
open Go.RowKit
theorem expr15_all {an:Option Addr} {cn:Nat} {clo:Bool} {evs:List Ev} {hs:List HN} {rs:List RN} (hk:Lk hs rs) (hlr:∀ i r,rs[i]? = some r → ((lastR rs i:Nat):Int) = r.last):∀ f,ExR an cn clo evs hs rs f
 | 0=>fun x cs W _ h _=>h.elim
 | f + 1=>fun x cs W hH hxa hg=>by
  obtain ⟨a,c,p,d,rfl,_,_,_,_,_,_,htx,hal,hpl,hargs,hpath⟩:=hxa
  have hg':(if x.op = 3 then x.args.isEmpty && goodPB (goodXB f) x.path && (x.attr.isEmpty || nameB x.attr) && goodCB x.cmp x.text x.num
   else bareB x && (if x.op = 0 ∨ x.op = 1 then decide (2 ≤ x.args.length) else if x.op = 2 then decide (x.args.length = 1) else false) && x.args.all (goodXB f)) = true:=hg
  by_cases hop:x.op = 3
  ·rw [if_pos hop] at hg'
   simp only [Bool.and_eq_true] at hg'
   exact expr15Some_any (expr15_all hk hlr f) x a c p d W hH hk hlr hpath hpl htx hg'.1.1.2 hop
  ·rw [if_neg hop] at hg'
   simp only [Bool.and_eq_true] at hg'
   refine expr15Else_any (expr15_all hk hlr f) x a c p d W hH hargs hal hg'.2 ?_
   have h:=hg'.1.2
   split at h
   ·rename_i h01
    rcases h01 with h0 | h1
    ·exact .inl h0
    ·exact .inr (.inl h1)
   ·split at h
    ·rename_i h2
     exact .inr (.inr ⟨h2,of_decide_eq_true h⟩)
    ·cases h
end Go.Proofs.YtgjokdngbocehaaGreatDoor
namespace Go.Proofs.YtgjokdngbocehaaGreatDoor
open Go.RowKit
theorem MJ.wide {w0 w W:World} {P n:Nat} {l:List Int} (h:MJ w P n l W) (hb:Below w0.heap.size w0 w):MJ w0 P n l W :=
 ⟨hb.trans (h.old.mono hb.size),by have:=hb.size;have:=h.lo;omega,h.own,h.len⟩
theorem led0_set (hs:List HN):(List.replicate hs.length (0:Int)).set 0 2 = led0 hs:=by
 unfold led0
 refine List.ext_getElem (by rw [List.length_set,List.length_replicate,rowOf_len]) fun q g1 g2=>?_
 rw [List.getElem_set,rowOf_get,List.getElem_replicate]
 by_cases e:0 = q
 ·subst e;rfl
 ·rw [if_neg e,decide_eq_false (fun hh=>e hh.symm)];rfl
set_option maxRecDepth 100000 in
set_option maxHeartbeats 16000000 in
theorem query15_any {an:Option Addr} {cn:Nat} {clo:Bool} {evs:List Ev} {hs:List HN} {rs:List RN} {f:Nat} (HX:ExR an cn clo evs hs rs f) (ss:List PS) (sa:Option Addr) (sc:Nat) (w:World) (h:RD w an clo evs hs rs) (hk:Lk hs rs) (hps:Pars hs) (hlr:∀ i r,rs[i]? = some r → ((lastR rs i:Nat):Int) = r.last) (hp:SsAt f w sa ss) (hpl:ss.length ≤ 1048576) (hg:goodPB (goodXB f) ss = true) :
  Calls Tryz.prog 34 #[.agg #[.slice an rs.length cn,.bool clo],.agg #[.slice sa ss.length sc]] w fun e w'=>∃ P,e = .returned (.slice (some ⟨P,0,none⟩) hs.length hs.length) ∧ TsAt w' (some ⟨P,0,none⟩) hs.length ((pathT (exprT hs f) hs ss ss.length).set 0 0) ∧ Below w.heap.size w w':=by
 obtain ⟨i0,hi,hz0,hz1,hz2⟩:=info_parts infoInt
 obtain ⟨q,hq⟩:∃ q,ss.length = q:=⟨_,rfl⟩
 obtain ⟨L,hL⟩:∃ L,rs.length = L:=⟨_,rfl⟩
 obtain ⟨N,hN⟩:∃ N,hs.length = N:=⟨_,rfl⟩
 have hNL:N = L + 1:=by rw [← hL,← hN];exact h.len
 have hcap:L ≤ 400:=by rw [← hL];exact h.cap
 obtain ⟨W0,hW0⟩:∃ W0,W0 = (w.alloc (.cells #[.slice an L cn,.bool clo] 90)).alloc (.cells #[.slice sa q sc] 25):=⟨_,rfl⟩
 have hb0:Below w.heap.size w W0:=by rw [hW0];exact ((Below.refl w.heap.size w).alloc (Nat.le_refl _) _).alloc (by simp) _
 have hsz0:W0.heap.size = w.heap.size + 2:=by rw [hW0];simp
 have hk0:W0.heap[w.heap.size]? = some (.cells #[.slice an L cn,.bool clo] 90 (0,0)):=by
  rw [hW0,Below.heap_alloc _ _ _ (by simp)];exact heap_alloc_new w _
 have hk1:W0.heap[w.heap.size + 1]? = some (.cells #[.slice sa q sc] 25 (0,0)):=by
  rw [hW0];exact alloc_atR _ _ (by simp)
 have HKS:Hid (∀ W,Below W0.heap.size W0 W → W.cell? ⟨w.heap.size,0,none⟩ = some (.slice an L cn) ∧ W.cell? ⟨w.heap.size,1,none⟩ = some (.bool clo) ∧ W.cell? ⟨w.heap.size + 1,0,none⟩ = some (.slice sa q sc)):=Lib.hid fun W hW=>by
  have g0:=(hW.block w.heap.size (by omega)).trans hk0
  have g1:=(hW.block (w.heap.size + 1) (by omega)).trans hk1
  exact ⟨by rw [cell_heap g0];rfl,by rw [cell_heap g0];rfl,by rw [cell_heap g1];rfl⟩
 have FIN:Hid (∀ W,Below W0.heap.size W0 W → Below w.heap.size w W ∧ w.heap.size ≤ W0.heap.size):=Lib.hid fun W hW=>⟨hb0.trans (hW.mono hb0.size),hb0.size⟩
 have HAL:Hid (∀ (ax:Int) (k:Nat) (J:Int) W,0 ≤ ax ∧ ax ≤ 3 → k < N → J + 1 = (k:Int) → Below W0.heap.size W0 W → Calls Tryz.prog 60 #[.slice an L cn,.int .i64 J,.int .i64 ax] W fun e w'=>∃ A c,e = .returned (.slice A (alongR L (lastR rs) (parR rs) J ax).length c) ∧ IntsN W.heap.size w' A (alongR L (lastR rs) (parR rs) J ax).length (alongR L (lastR rs) (parR rs) J ax) ∧ Below W.heap.size W w'):=Lib.hid fun ax k J W hat hk' hJ hW=>by
  have hb:=(FIN.out W hW).1
  by_cases hl0:L = 0
  ·have hJ1:J = -1:=by omega
   have:=along0_any an cn ax (lastR rs) (parR rs) W hat
   rw [hJ1,hl0]
   exact this
  ·refine alongF_any an cn L J ax (lastR rs) (parR rs) W hcap (by omega) (by rw [← hL];exact hk.ax.rng) (fun i hi=>?_) (by omega) (by omega)
   have hir:rs[i]? = some (rs[i]'(by omega)):=List.getElem?_eq_getElem _
   obtain ⟨y,hy,_⟩:=h.rel i _ hir
   obtain ⟨r,b,A,m,c',g1,g2,g3,g4,g5,g6⟩:=(h.below hb).node i y hy
   have g7:=g6 W (Below.refl _ _)
   have e1:parR rs i = r.par:=by unfold parR;rw [g1];rfl
   have e2:=hlr i r g1
   obtain ⟨b',e',A',m',c'',k1,k2,_⟩:=(h.below hb).mem i r g1
   have hbb:b' = b:=by rw [k1] at g4;cases g4;rfl
   rw [hbb] at k1 k2
   exact ⟨b,k1,k2,by rw [e1];exact g7.2.2.2.2.1,by rw [e2];exact g7.2.2.2.2.2.1⟩
 have HRNG:Hid (∀ (ax J:Int),-1 ≤ J → J < (L:Int) → ∀ u ∈ alongR L (lastR rs) (parR rs) J ax,0 ≤ u + 1 ∧ (u + 1).toNat < N ∧ -1 ≤ u ∧ u < (N:Int)):=Lib.hid fun ax J h1 h2 u hu=>by
  have:=along_rng (by rw [← hL];exact hk.ax.rng) J ax h1 u hu
  omega
 have HLN:Hid (∀ ax J:Int,(alongR L (lastR rs) (parR rs) J ax).length ≤ L + 1):=Lib.hid fun ax J=>by
  rw [← hL,alongR_eq hk.ax];exact alongM_len _ _ _ _
 have HME:Hid (∀ j (hj:j < ss.length) wa wn W,Below W0.heap.size W0 W → XsAt f W wa ss[j].wher → ss[j].wher.length ≤ 1048576 → Calls Tryz.prog 59 #[.agg #[.slice an L cn,.bool clo],.agg #[.int .i64 ss[j].axis,.int .i64 ss[j].test,.string (strL ss[j].name),.slice wa ss[j].wher.length wn]] W fun e w'=>∃ P,e = .returned (.slice (some ⟨P,0,none⟩) N N) ∧ W.heap.size ≤ P ∧ TsAt w' (some ⟨P,0,none⟩) N (metT (exprT hs f) hs ss[j] (rowOf hs.length fun _=>2)) ∧ Below W.heap.size W w'):=Lib.hid fun j hj wa wn W hW g1 g2=>by
  have hgs:=goodPB_at hg j hj
  have hgw:ss[j].wher.all (goodXB f) = true:=List.all_eq_true.2 fun y hy=>by
   obtain ⟨i,hi,rfl⟩:=List.getElem_of_mem hy
   exact goodSB_at hgs i hi
  have hgb:(0 ≤ ss[j].test ∧ ss[j].test ≤ 3):=by
   unfold goodSB at hgs
   simp only [Bool.and_eq_true,decide_eq_true_eq] at hgs
   obtain ⟨⟨⟨⟨⟨q1,q2⟩,q3⟩,q4⟩,_⟩,_⟩:=hgs
   exact ⟨q3,q4⟩
  have:=met15_any (cn:=cn) HX ss[j] wa wn W (h.below (FIN.out W hW).1) g1 g2 hgw hgb
  unfold stepC at this
  rw [hL,hN,← hN] at this
  rw [← hN]
  exact this
 have HQS:Hid (∀ j (hj:j < ss.length),(0 ≤ ss[j].axis ∧ ss[j].axis ≤ 3) ∧ qRow (metT (exprT hs f) hs ss[j] (rowOf hs.length fun _=>2)) (pathT (exprT hs f) hs ss j) N (fun v=>alongR L (lastR rs) (parR rs) v ss[j].axis) N = pathT (exprT hs f) hs ss (j + 1)):=Lib.hid fun j hj=>by
  have hgs:=goodPB_at hg j hj
  have hgb:(0 ≤ ss[j].axis ∧ ss[j].axis ≤ 3):=by
   unfold goodSB at hgs
   simp only [Bool.and_eq_true,decide_eq_true_eq] at hgs
   obtain ⟨⟨⟨⟨⟨q1,q2⟩,q3⟩,q4⟩,_⟩,_⟩:=hgs
   exact ⟨q1,q2⟩
  refine ⟨hgb,?_⟩
  rw [pathT_succ _ _ _ _ hj,← query_step hk hps (exprT hs f) ss[j] (pathT (exprT hs f) hs ss j) (pathT_3 _ _ _ _ (by omega)) (fun z hz=>?_) hgb,hN,hL]
  cases f with
  | zero=>intro t ht;cases ht
  | succ f=>exact (exprT_ok hs (by omega) f z).1
 have HPL:Hid (∀ j,j ≤ q → (pathT (exprT hs f) hs ss j).length = N):=Lib.hid fun j hj=>by rw [← hN];exact pathT_len _ _ _ _ (by omega)
 have HP0:Hid ((List.replicate N (0:Int)).set 0 2 = pathT (exprT hs f) hs ss 0):=Lib.hid (by rw [pathT_zero,← led0_set hs,hN])
 have HSS:Hid (∀ W,Below W0.heap.size W0 W → SsAt f W sa ss):=Lib.hid fun W hW=>SsAt.below hp (FIN.out W hW).1
 have HAN:=Lib.hid and15_any
 have HOR:=Lib.hid or15_any
 have HW0:=Lib.hid hW0
 have HQ:=Lib.hid hq
 have HNI:Hid ((L:Int) + 1 = (N:Int)):=Lib.hid (by omega)
 have HNL:=Lib.hid hNL
 have hNb:N ≤ 401:=by omega
 have hN1:1 ≤ N:=by omega
 have hqb:q ≤ 1048576:=by rw [← hq];exact hpl
 rw [hN,hL,hq]
 have HMK:Hid (∀ w1,w1.ownsRow ((w.alloc (.cells #[.slice an L cn,.bool clo] 90)).alloc (.cells #[.slice sa q sc] 25)).heap.size 3 1 (.slice (some ⟨((w.alloc (.cells #[.slice an L cn,.bool clo] 90)).alloc (.cells #[.slice sa q sc] 25)).heap.size,0,none⟩) N N) N (madeCells (Value.int .i64 0).cells (N * 1)).toList → ((w.alloc (.cells #[.slice an L cn,.bool clo] 90)).alloc (.cells #[.slice sa q sc] 25)).grownBy w1 none → MJ W0 (w.heap.size + 1 + 1) N (List.replicate N 0) w1):=Lib.hid (by
  rw [← hW0]
  intro w1 hown hgr
  have:=MJ.made (w:=W0) (Below.refl _ _) hown hgr
  rw [hsz0] at this
  exact this)
 clear hb0 hsz0 hk0 hk1 hW0 h hk hlr hp hpl hg HX hL hN hNL hq hps
 generalize alongR L (lastR rs) (parR rs) = AL at *
 go_enter Tryz.func34,Tryz.ntmps34
 go_wp2_with (at_make;go_must ((refine wpList_make_full ((w.alloc (.cells #[.slice an L cn,.bool clo] 90)).alloc (.cells #[.slice sa q sc] 25)) (by rfl) _ _ 66 (by rfl) ((w.alloc (.cells #[.slice an L cn,.bool clo] 90)).alloc (.cells #[.slice sa q sc] 25)).heap.size 3 i0 _ 1 Tryz.underlying66 hi hz0 hz1 .i64 .i64 ((L:Int) + 1) ((L:Int) + 1) N (by rfl) (by rfl) HNI.out HNI.out (by rw [hz2];omega) (by unfold maxLen;omega) (Nat.le_refl _) (fun w1 hown hgr=>?_));have HMJ:=Lib.hid (HMK.out w1 hown hgr);have zz:=HMJ.out.at 0 hN1;have ff:=HMJ.out.frozen 0;have ll:=HMJ.out.lt;have nn:(0:Int) < (N:Int):=(by omega)))
 clear hown hgr HMK
 generalize w.heap.size + 1 + 1 = P0 at *
 have HM0:Hid (MJ W0 P0 N (pathT (exprT hs f) hs ss 0) (w1.setCell ⟨P0,0,none⟩ (.int .i64 2))):=Lib.hid (by rw [← HP0.out];exact HMJ.out.set 0 2)
 clear HMJ
 go_loopw [5,6] (fun ov iv wr=>∃ j Q:Nat,ov = .slice (some ⟨Q,0,none⟩) N N ∧ iv = .int .i64 (j:Int) ∧ j ≤ q ∧ Hid (MJ W0 Q N (pathT (exprT hs f) hs ss j) wr)) (fun _ iv _=>q - (intOf iv).toNat)
 case atStart=>exact ⟨0,P0,rfl,rfl,Nat.zero_le _,HM0⟩
 case round =>
  obtain ⟨j,Q,rfl,rfl,hjq,HJ⟩:=hrel
  obtain ⟨p0,p1,p2⟩:=HKS.out wr HJ.out.old
  by_cases hj0:j < q
  ·have hiq:j < ss.length:=by rw [HQ.out];exact hj0
   obtain ⟨b,o,wa,wn,rfl,hbl,hst,hcs⟩:=(HSS.out wr HJ.out.old).get' j hiq
   obtain ⟨s0,s1,s2,s3⟩:=hcs wr (Below.refl _ _)
   obtain ⟨hqa,hqe⟩:=HQS.out j hiq
   have HQE:=Lib.hid hqe
   have HQA:=Lib.hid hqa
   obtain ⟨led,hled⟩:∃ led,pathT (exprT hs f) hs ss j = led:=⟨_,rfl⟩
   rw [hled] at HQE HJ
   obtain ⟨me,hme⟩:∃ me,metT (exprT hs f) hs ss[j] (rowOf hs.length fun _=>2) = me:=⟨_,rfl⟩
   rw [hme] at HQE
   have hbs:Below wr.heap.size wr (wr.alloc (.cells #[.int .i64 ss[j].axis,.int .i64 ss[j].test,.string (strL ss[j].name),.slice wa ss[j].wher.length wn] 76)):=(Below.refl wr.heap.size wr).alloc (Nat.le_refl _) _
   have hbz:(wr.alloc (.cells #[.int .i64 ss[j].axis,.int .i64 ss[j].test,.string (strL ss[j].name),.slice wa ss[j].wher.length wn] 76)).heap.size = wr.heap.size + 1:=by simp
   have hbk:(wr.alloc (.cells #[.int .i64 ss[j].axis,.int .i64 ss[j].test,.string (strL ss[j].name),.slice wa ss[j].wher.length wn] 76)).heap[wr.heap.size]? = some (.cells #[.int .i64 ss[j].axis,.int .i64 ss[j].test,.string (strL ss[j].name),.slice wa ss[j].wher.length wn] 76 (0,0)):=heap_alloc_new wr _
   have hbW:=HJ.out.old.trans (hbs.mono HJ.out.old.size)
   have HMT:Hid (Calls Tryz.prog 59 #[.agg #[.slice an L cn,.bool clo],.agg #[.int .i64 ss[j].axis,.int .i64 ss[j].test,.string (strL ss[j].name),.slice wa ss[j].wher.length wn]] (wr.alloc (.cells #[.int .i64 ss[j].axis,.int .i64 ss[j].test,.string (strL ss[j].name),.slice wa ss[j].wher.length wn] 76)) fun e w'=>∃ M,e = .returned (.slice (some ⟨M,0,none⟩) N N) ∧ TsAt w' (some ⟨M,0,none⟩) N me ∧ TsAt w' (some ⟨Q,0,none⟩) N led ∧ w'.heap[wr.heap.size]? = some (.cells #[.int .i64 ss[j].axis,.int .i64 ss[j].test,.string (strL ss[j].name),.slice wa ss[j].wher.length wn] 76 (0,0)) ∧ wr.heap.size < w'.heap.size ∧ Below W0.heap.size W0 w'):=Lib.hid (by
    obtain ⟨a',c',hcc,_,_,_,_,hwn,hxs⟩:=hst
    have hca:wa = a' ∧ wn = c':=by unfold stepC at hcc;simp at hcc;exact hcc
    obtain ⟨rfl,rfl⟩:=hca
    have h9:=HME.out j hiq wa wn _ hbW (XsAt.below hxs hbs) hwn
    rw [hme] at h9
    refine h9.mono fun e w' ⟨M,g1,g2,g3,g4⟩=>⟨M,g1,g3,?_,?_,?_,?_⟩
    ·exact ((HJ.out.ts.below hbs).below g4)
    ·exact (g4.block _ (by rw [hbz];omega)).trans hbk
    ·have:=g4.size;rw [hbz] at this;omega
    ·exact hbW.trans (g4.mono hbW.size))
   obtain ⟨y0,y1,y2⟩:=HKS.out _ hbW
   clear hst hcs hbl hqa hqe hled hme hbs hbz hbW HQS p2
   generalize ss[j]'hiq = s at *
   have z0:(wr.alloc (.cells #[.int .i64 s.axis,.int .i64 s.test,.string (strL s.name),.slice wa s.wher.length wn] 76)).cell? ⟨wr.heap.size,0,none⟩ = some (.int .i64 s.axis):=by rw [cell_heap hbk];rfl
   have z1:(wr.alloc (.cells #[.int .i64 s.axis,.int .i64 s.test,.string (strL s.name),.slice wa s.wher.length wn] 76)).cell? ⟨wr.heap.size,1,none⟩ = some (.int .i64 s.test):=by rw [cell_heap hbk];rfl
   have z2:(wr.alloc (.cells #[.int .i64 s.axis,.int .i64 s.test,.string (strL s.name),.slice wa s.wher.length wn] 76)).cell? ⟨wr.heap.size,2,none⟩ = some (.string (strL s.name)):=by rw [cell_heap hbk];rfl
   have z3:(wr.alloc (.cells #[.int .i64 s.axis,.int .i64 s.test,.string (strL s.name),.slice wa s.wher.length wn] 76)).cell? ⟨wr.heap.size,3,none⟩ = some (.slice wa s.wher.length wn):=by rw [cell_heap hbk];rfl
   clear hbk
   obtain ⟨p0,p1,p2⟩:=HKS.out wr HJ.out.old
   have i2:(0:Int) ≤ (j:Int):=by omega
   have i3:(j:Int) < (q:Int):=by omega
   have ewi:IntKind.i64.wrap ((j:Int) + 1) = (j:Int) + 1:=IntWalk.i64_in _ (by omega)
   go_wp2_with fail
   (with_reducible refine HMT.out.mono ?_)
   rintro e w2 ⟨M,rfl,hT,hL2,hbx,hlt,hb2⟩
   have HB2:=Lib.hid hb2
   have HST2:Hid (∀ W,Below w2.heap.size w2 W → TsAt W (some ⟨M,0,none⟩) N me ∧ TsAt W (some ⟨Q,0,none⟩) N led ∧ W.cell? ⟨wr.heap.size,0,none⟩ = some (.int .i64 s.axis) ∧ Below W0.heap.size W0 W):=Lib.hid fun W hW=>by
    have g:=(hW.block _ hlt).trans hbx
    exact ⟨hT.below hW,hL2.below hW,by rw [cell_heap g];rfl,hb2.trans (hW.mono hb2.size)⟩
   have HSZ:=Lib.hid hlt
   clear hT hL2 hbx hlt hb2 y0 y1 y2 z0 z1 z2 z3 s0 s1 s2 s3 p0 p1 p2 HMT
   go_wp2_with (at_make;go_must ((refine wpList_make_full w2 (by rfl) _ _ 66 (by rfl) w2.heap.size 3 i0 _ 1 Tryz.underlying66 hi hz0 hz1 .i64 .i64 (N:Int) (N:Int) N (by rfl) (by rfl) rfl rfl (by rw [hz2];omega) (by unfold maxLen;omega) (Nat.le_refl _) (fun w3 hown hgr=>?_));have HMJ:=Lib.hid (MJ.made (w:=w2) (Below.refl _ _) hown hgr)))
   clear hown hgr
   obtain ⟨P,hP⟩:∃ P,w2.heap.size = P:=⟨_,rfl⟩
   have HPE:=Lib.hid hP
   rw [hP] at HMJ
   rw [hP]
   clear hP
   obtain ⟨BX,hBX⟩:∃ BX,wr.heap.size = BX:=⟨_,rfl⟩
   rw [hBX] at HST2
   rw [hBX]
   clear hBX HSZ
   have HAL2:Hid (∀ (k:Nat) (J:Int) W,k < N → J + 1 = (k:Int) → Below W0.heap.size W0 W → Calls Tryz.prog 60 #[.slice an L cn,.int .i64 J,.int .i64 s.axis] W fun e w'=>∃ A c,e = .returned (.slice A (AL J s.axis).length c) ∧ IntsN W.heap.size w' A (AL J s.axis).length (AL J s.axis) ∧ Below W.heap.size W w'):=Lib.hid fun k J W h1 h2 h3=>HAL.out s.axis k J W HQA.out h1 h2 h3
   have HR2:Hid (∀ J:Int,-1 ≤ J → J < (L:Int) → ∀ u ∈ AL J s.axis,0 ≤ u + 1 ∧ (u + 1).toNat < N ∧ -1 ≤ u ∧ u < (N:Int)):=Lib.hid fun J h1 h2=>HRNG.out s.axis J h1 h2
   have HL2:Hid (∀ J:Int,(AL J s.axis).length ≤ L + 1):=Lib.hid fun J=>HLN.out s.axis J
   generalize s.axis = ax at *
   go_loopw [10] (fun iv wr=>∃ (k:Nat) (J:Int),iv = .int .i64 J ∧ J + 1 = (k:Int) ∧ k ≤ N ∧ Hid (MJ w2 P N (qRow me led N (fun v=>AL v ax) k) wr)) (fun iv _=>N - (intOf iv + 1).toNat)
   case atStart=>exact ⟨0,-1,rfl,rfl,Nat.zero_le _,Lib.hid HMJ.out⟩
   case round =>
    obtain ⟨k,J,rfl,hJ,hk,HM⟩:=hrel
    obtain ⟨g1,g2,g3,g4⟩:=HST2.out wr HM.out.old
    obtain ⟨p0,p1,p2⟩:=HKS.out wr g4
    have HBR:=Lib.hid g4
    clear g4 g1 g2
    by_cases hkn:k < N
    ·have HA1:=Lib.hid (HAL2.out k J wr hkn hJ HBR.out)
     have HRG:=Lib.hid (HR2.out J (by omega) (by have:=HNL.out;omega))
     have htl:=HL2.out J
     have HSK:Hid (qRow me led N (fun v=>AL v ax) (k + 1) = qList me (led.getD k 0) (qRow me led N (fun v=>AL v ax) k) (AL J ax)):=Lib.hid (by
      have:=qRow_succ me led N (fun v=>AL v ax) k
      rw [show (k:Int) - 1 = J by omega] at this;exact this)
     have HJ0:=Lib.hid hJ
     have ewj:IntKind.i64.wrap (J + 1) = (k:Int):=by rw [IntWalk.i64_in _ (by omega)];omega
     have hjl:J < (L:Int):=by have:=HNL.out;omega
     have hrl:(qRow me led N (fun v=>AL v ax) k).length = N:=qRow_len ..
     generalize AL J ax = tl at *
     obtain ⟨row2,hrow2⟩:∃ row2,qRow me led N (fun v=>AL v ax) (k + 1) = row2:=⟨_,rfl⟩
     rw [hrow2] at HSK
     have HROW:=Lib.hid hrow2
     clear hrow2
     generalize qRow me led N (fun v=>AL v ax) k = row at *
     have HRL:=Lib.hid hrl
     clear hJ hrl
     go_wp2_with fail
     (with_reducible refine HA1.out.mono ?_)
     rintro e w4 ⟨A,cc,rfl,hia,hb3⟩
     have HM3:Hid (MJ w2 P N (qList me (led.getD k 0) row (tl.take 0)) w4 ∧ IntsAt w4 A tl.length tl ∧ ∀ ad,A = some ad → P ≠ ad.block):=Lib.hid ⟨by rw [List.take_zero,qList_nil];exact HM.out.below hb3,hia.1,fun ad e=>by have h5:=hia.2 ad e;have h6:=HM.out.lt;omega⟩
     clear hia hb3 HA1 p0 p1 p2 g3
     have htl2:tl.length ≤ 402:=by omega
     clear htl
     obtain ⟨tn,htn⟩:∃ tn,tl.length = tn:=⟨_,rfl⟩
     have HTN:=Lib.hid htn
     rw [htn] at HM3 htl2
     rw [htn]
     clear htn
     go_wp2_with fail
     go_loopw [12] (fun iv wr=>∃ i:Nat,iv = .int .i64 i ∧ i ≤ tn ∧ Hid (MJ w2 P N (qList me (led.getD k 0) row (tl.take i)) wr ∧ IntsAt wr A tn tl ∧ ∀ ad,A = some ad → P ≠ ad.block)) (fun iv _=>tn - (intOf iv).toNat)
     case atStart=>exact ⟨0,rfl,Nat.zero_le _,HM3⟩
     case round =>
      obtain ⟨i,rfl,hit,HI⟩:=hrel
      by_cases hin:i < tn
      ·have hil:i < tl.length:=by rw [HTN.out];exact hin
       obtain ⟨b2,o2,rfl,hbl,y0⟩:=HI.out.2.1.at' i hil
       obtain ⟨u1,u2,u3,u4⟩:=HRG.out tl[i] (List.getElem_mem hil)
       have HSN:Hid (qList me (led.getD k 0) row (tl.take (i + 1)) = qPut me (led.getD k 0) (qList me (led.getD k 0) row (tl.take i)) tl[i]):=Lib.hid (by rw [List.take_succ_eq_append_getElem hil,qList_snoc])
       generalize tl[i] = u at *
       unfold qPut at HSN
       obtain ⟨ju,hju⟩:∃ ju,(u + 1).toNat = ju:=⟨_,rfl⟩
       rw [hju] at HSN u2
       obtain ⟨g1,g2,g3,g4⟩:=HST2.out wr HI.out.1.old
       obtain ⟨y1,y2⟩:=g1.at0 ju u2
       obtain ⟨y3,y4⟩:=g2.at0 k hkn
       have z0:=HI.out.1.at ju u2
       have fz:=HI.out.1.frozen ju
       have lz:=HI.out.1.lt
       have ewu:IntKind.i64.wrap (u + 1) = (ju:Int):=by rw [IntWalk.i64_in _ (by omega)];omega
       have HNX:Hid (∀ v,MJ w2 P N ((qList me (led.getD k 0) row (tl.take i)).set ju v) (wr.setCell ⟨P,ju,none⟩ (.int .i64 v)) ∧ IntsAt (wr.setCell ⟨P,ju,none⟩ (.int .i64 v)) (some ⟨b2,o2,none⟩) tn tl):=Lib.hid fun v=>⟨HI.out.1.set ju v,HI.out.2.1.len,fun i' hi'=>by
        obtain ⟨b',o',e',hl',hc'⟩:=HI.out.2.1.at' i' hi'
        refine ⟨b',o',e',by simp [World.setCell];exact hl',?_⟩
        have hne:=HI.out.2.2 _ e'
        rw [← hc']
        have hk:∀ v,(wr.setCell ⟨P,ju,none⟩ v).heap[b']? = wr.heap[b']?:=fun v=>Below.heap_setCell _ _ _ _ (show b' ≠ P from fun e=>hne e.symm)
        simp only [World.cell?,hk]⟩
       have HNE:Hid (∀ ad,(some ⟨b2,o2,none⟩:Option Addr) = some ad → P ≠ ad.block):=Lib.hid HI.out.2.2
       obtain ⟨q2,hq2⟩:∃ q2,qList me (led.getD k 0) row (tl.take (i + 1)) = q2:=⟨_,rfl⟩
       rw [hq2] at HSN
       have HQ2:=Lib.hid hq2
       clear hq2
       generalize qList me (led.getD k 0) row (tl.take i) = q1 at *
       have HAD:Hid (Calls Tryz.prog 62 #[.int .i64 (me.getD ju 0),.int .i64 (led.getD k 0)] wr.drew fun e w'=>e = .returned (.int .i64 (min (me.getD ju 0) (led.getD k 0))) ∧ w' = wr.drew):=Lib.hid (HAN.out _ _ _)
       have HOD:Hid (Calls Tryz.prog 61 #[.int .i64 (q1.getD ju 0),.int .i64 (min (me.getD ju 0) (led.getD k 0))] wr.drew fun e w'=>e = .returned (.int .i64 (max (q1.getD ju 0) (min (me.getD ju 0) (led.getD k 0)))) ∧ w' = wr.drew):=Lib.hid (HOR.out _ _ _)
       have HN2:=Lib.hid (HNX.out (max (q1.getD ju 0) (min (me.getD ju 0) (led.getD k 0))))
       rw [← HSN.out] at HN2
       generalize max (q1.getD ju 0) (min (me.getD ju 0) (led.getD k 0)) = v4 at *
       generalize min (me.getD ju 0) (led.getD k 0) = v3 at *
       generalize me.getD ju 0 = v1 at *
       generalize led.getD k 0 = v2 at *
       generalize q1.getD ju 0 = v0 at *
       have k1:(0:Int) ≤ (i:Int):=by omega
       have k2:(i:Int) < (tn:Int):=by omega
       have k3:(0:Int) ≤ (ju:Int):=by omega
       have k4:(ju:Int) < (N:Int):=by omega
       have k5:(0:Int) ≤ (k:Int):=by omega
       have k6:(k:Int) < (N:Int):=by omega
       have ewi:IntKind.i64.wrap ((i:Int) + 1) = (i:Int) + 1:=IntWalk.i64_in _ (by omega)
       clear hju u1 u2 u3 u4 HSN g1 g2 g3 g4 HNX HI HRG
       go_wp2_with fail
       refine wp_region_still_tail 30 (by kernel_rfl) (by kernel_rfl) ?_
       change wpStill _ _ wr.drew (fun a'=>wpList _ _ _ _ a' wr.drew) _ _
       simp only [List.take_succ_cons,List.take_zero,List.drop_succ_cons,List.drop_zero]
       repeat still_step
       still_call HAD.out
       still_call HOD.out
       still_step
       refine wpStill_nil ?_
       go_wp2_with fail
       go_roundw
       case rel=>exact ⟨i + 1,by go_num,by omega,Lib.hid (by rw [HQ2.out];exact ⟨HN2.out.1.below ((Below.refl _ _).drew),HN2.out.2.below ((Below.refl _ _).drew),HNE.out⟩)⟩
       case measure=>simp [intOf];omega
      ·have hi2:i = tn:=by omega
       have hfull:tl.take i = tl:=List.take_of_length_le (by rw [HTN.out];omega)
       have HE:Hid (MJ w2 P N row2 wr):=Lib.hid (by have:=HI.out.1;rw [hfull] at this;rw [HSK.out];exact this)
       have k2:(tn:Int) ≤ (i:Int):=by omega
       clear HI hfull hi2 HSK
       go_wp2_with fail
       go_roundw
       case rel=>exact ⟨k + 1,(k:Int),by first | rfl | go_num,by omega,by omega,Lib.hid (by rw [HROW.out];exact HE.out)⟩
       case measure=>have:=HJ0.out;simp [intOf];omega
    ·have hk2:k = N:=by omega
     have HE:Hid (MJ W0 P N (pathT (exprT hs f) hs ss (j + 1)) wr):=Lib.hid (by have:=HM.out.wide HB2.out;rw [hk2] at this;rw [← HQE.out];exact this)
     have hjl:(L:Int) ≤ J:=by have:=HNL.out;omega
     clear HM hJ
     go_wp2_with fail
     go_roundw
     case rel=>exact ⟨j + 1,P,rfl,by go_num,by omega,HE⟩
     case measure=>simp [intOf];omega
  ·have hj2:j = q:=by omega
   subst hj2
   have zz:=HJ.out.at 0 hN1
   have ff:=HJ.out.frozen 0
   have ll:=HJ.out.lt
   have nn:(0:Int) < (N:Int):=by omega
   have HE:Hid (TsAt (wr.setCell ⟨Q,0,none⟩ (.int .i64 0)) (some ⟨Q,0,none⟩) N ((pathT (exprT hs f) hs ss j).set 0 0) ∧ Below w.heap.size w (wr.setCell ⟨Q,0,none⟩ (.int .i64 0))):=Lib.hid ⟨(HJ.out.set 0 0).ts,(FIN.out _ (HJ.out.set 0 0).old).1⟩
   clear HJ
   go_wp2_with fail
   go_ret
   exact ⟨Q,rfl,HE.out.1,HE.out.2⟩
end Go.Proofs.YtgjokdngbocehaaGreatDoor
