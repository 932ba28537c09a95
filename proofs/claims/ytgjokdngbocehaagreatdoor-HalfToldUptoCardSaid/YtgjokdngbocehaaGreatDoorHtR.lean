/-
  (*tree.Check).Take: its region 15, where an open element is kept.
-/
import Derived.BigRegion
import Derived.Test.YtgjokdngbocehaaGreatDoorHtA
import Derived.Test.YtgjokdngbocehaaGreatDoorHtD
import Derived.Test.YtgjokdngbocehaaGreatDoorHtE
import Derived.Test.YtgjokdngbocehaaGreatDoorHtF
import Derived.Test.YtgjokdngbocehaaGreatDoorHtG
import Derived.Test.YtgjokdngbocehaaGreatDoorHtH
import Derived.Test.YtgjokdngbocehaaGreatDoorHtM
import Derived.Test.YtgjokdngbocehaaGreatDoorHtN
import Derived.Test.YtgjokdngbocehaaGreatDoorHtP
import Derived.Test.YtgjokdngbocehaaGreatDoorHtQ
namespace Go.Proofs.YtgjokdngbocehaaGreatDoor
open Go.RowKit
noncomputable def take15:Code:=((Tryz.f43.body.bind (regNo6 15)).getD .skip)
def ldOp:Op:=Op.load 22 (Operand.tmp 118)
theorem ldOp_eq:ldOp = Op.load 22 (Operand.tmp 118):=rfl
set_option maxRecDepth 1000000 in
set_option maxHeartbeats 4000000 in
theorem take15_any (R cb eb on:Nat) (nx dd:Int) (b2 b3:Bool) (oa:Option Addr) (oc:Nat) (ename:List UInt8) (opn:List (Int × Int × List UInt8)) (q0 q4 q5 q6 q7:Value) (u1 u2 u4 u5 u6 u7 u8 u9 u10 u11 u12 u13 u14 u15 u16 u17 u18 u19 u20 u21 u22 u23 u24 u25 u26 u27 u28 u29 u30 u31 u32 u33 u34 u35 u36 u37 u38 u39 u40 u41 u42 u43 u44 u45 u46 u47 u48 u49 u50 u51 u52 u53 u54 u55 u56 u57 u58 u59 u60 u61 u62 u63 u64 u65 u66 u67 u68 u69 u70 u71 u72 u73 u74 u75 u76 u77 u78 u79 u80 u81 u82 u83 u84 u85 u86 u87 u88 u89 u90 u91 u92 u93 u94 u95 u96 u97 u98 u99 u100 u101 u102 u103 u104 u105 u106 u107 u108 u109 u110 u111 u112 u113 u114 u115 u116 u117 u118 u119 u120 u121 u122 u123 u124 u125 u126 u127 u128 u129 u130 u131 u132 u133 u134 u135 u136 u137 u138 u139 u140 u141 u142 u143 u144 u145 u146 u147 u148 u149 u150 u151 u152 u153 u154 u155 u156 u157 u158 u159 u160 u161 u162 u163 u164 u165 u166 u167 u168 u169 u170 u171:Value) (W3:World)
  (h0:W3.heap[cb]? = some (.cells #[.slice oa on oc,.int .i64 nx,.bool b2,.bool b3] 105 (0,0))) (h1:W3.heap[eb]? = some (.cells #[q0,.int .i64 nx,.int .i64 dd,.string (strL ename),q4,q5,q6,q7] 47 (0,0)))
  (h2:W3.ownsRow R 47 8 (.slice oa on oc) on (ckC opn)) (hR:R ≤ W3.heap.size) (hcb:cb < R) (hne:cb ≠ eb) (hebo:(Value.slice oa on oc).ownBlock ≠ some eb) (hon:on ≤ 1048576)
  (Q:Exit → Act → World → Prop) (hQ:Hid (∀ (y115 y116 y117 y118 y119 y120 y121 y122 y123 y124 y125 y126 y127 y128 y129 y130:Value) (oa6:Option Addr) (oc6:Nat) (w6:World),w6.ownsRow R 47 8 (.slice oa6 (on + 1) oc6) (on + 1) (ckC opn ++ ckRow (nx,dd,ename)) → Moved cb (.slice oa on oc) (.slice oa6 (on + 1) oc6) W3 w6 →
   w6.heap[cb]? = some (.cells #[.slice oa6 (on + 1) oc6,.int .i64 nx,.bool b2,.bool b3] 105 (0,0)) → Q .normal ⟨#[.pointer (some ⟨cb,0,none⟩),u1,u2,.pointer (some ⟨eb,0,none⟩),u4,u5,u6,u7,u8,u9,u10,u11,u12,u13,u14,u15,u16,u17,u18,u19,u20,u21,u22,u23,u24,u25,u26,u27,u28,u29,u30,u31,u32,u33,u34,u35,u36,u37,u38,u39,u40,u41,u42,u43,u44,u45,u46,u47,u48,u49,u50,u51,u52,u53,u54,u55,u56,u57,u58,u59,u60,u61,u62,u63,u64,u65,u66,u67,u68,u69,u70,u71,u72,u73,u74,u75,u76,u77,u78,u79,u80,u81,u82,u83,u84,u85,u86,u87,u88,u89,u90,u91,u92,u93,u94,u95,u96,u97,u98,u99,u100,u101,u102,u103,u104,u105,u106,u107,u108,u109,u110,u111,u112,u113,u114,y115,y116,y117,y118,y119,y120,y121,y122,y123,y124,y125,y126,y127,y128,y129,y130,u131,u132,u133,u134,u135,u136,u137,u138,u139,u140,u141,u142,u143,u144,u145,u146,u147,u148,u149,u150,u151,u152,u153,u154,u155,u156,u157,u158,u159,u160,u161,u162,u163,u164,u165,u166,u167,u168,u169,u170,u171],[]⟩ w6)) :
  Code.wp Tryz.prog take15 Q ⟨#[.pointer (some ⟨cb,0,none⟩),u1,u2,.pointer (some ⟨eb,0,none⟩),u4,u5,u6,u7,u8,u9,u10,u11,u12,u13,u14,u15,u16,u17,u18,u19,u20,u21,u22,u23,u24,u25,u26,u27,u28,u29,u30,u31,u32,u33,u34,u35,u36,u37,u38,u39,u40,u41,u42,u43,u44,u45,u46,u47,u48,u49,u50,u51,u52,u53,u54,u55,u56,u57,u58,u59,u60,u61,u62,u63,u64,u65,u66,u67,u68,u69,u70,u71,u72,u73,u74,u75,u76,u77,u78,u79,u80,u81,u82,u83,u84,u85,u86,u87,u88,u89,u90,u91,u92,u93,u94,u95,u96,u97,u98,u99,u100,u101,u102,u103,u104,u105,u106,u107,u108,u109,u110,u111,u112,u113,u114,u115,u116,u117,u118,u119,u120,u121,u122,u123,u124,u125,u126,u127,u128,u129,u130,u131,u132,u133,u134,u135,u136,u137,u138,u139,u140,u141,u142,u143,u144,u145,u146,u147,u148,u149,u150,u151,u152,u153,u154,u155,u156,u157,u158,u159,u160,u161,u162,u163,u164,u165,u166,u167,u168,u169,u170,u171],[]⟩ W3:=by
 obtain ⟨i0,hi,hz0,hz1,hz2⟩:=info_parts infoEv
 have hcbo:(Value.slice oa on oc).ownBlock ≠ some cb:=fun e=>by have:=(h2.lt _ e).1;omega
 have hlt3:cb < W3.heap.size:=heap_lt h0
 have HOWA:Hid (∀ o,(W3.drew.alloc o).ownsRow R 47 8 (.slice oa on oc) on (ckC opn)):=Lib.hid fun o=>h2.drew.alloc o
 have HNEW:Hid (∀ o,(W3.drew.alloc o).heap[W3.heap.size]? = some o):=Lib.hid fun o=>heap_alloc_new W3.drew o
 have HLE3:Hid (∀ o,R ≤ (W3.drew.alloc o).heap.size):=Lib.hid fun o=>by simp;omega
 have HCBA:Hid (∀ o,(W3.drew.alloc o).heap[cb]? = some (.cells #[.slice oa on oc,.int .i64 nx,.bool b2,.bool b3] 105 (0,0)) ∧ cb < (W3.drew.alloc o).heap.size):=Lib.hid fun o=>⟨(Below.heap_alloc W3.drew o cb hlt3).trans h0,by simp;omega⟩
 have HEBA:Hid (∀ o,(W3.drew.alloc o).heap[eb]? = some (.cells #[q0,.int .i64 nx,.int .i64 dd,.string (strL ename),q4,q5,q6,q7] 47 (0,0)) ∧ eb < (W3.drew.alloc o).heap.size):=Lib.hid fun o=>by
  have hl:=heap_lt h1
  exact ⟨(Below.heap_alloc W3.drew o eb hl).trans h1,by simp;omega⟩
 have HMV:Hid (∀ o,Moved cb (.slice oa on oc) (.slice oa on oc) W3 (W3.drew.alloc o)):=Lib.hid fun o=>Moved.of (((Below.refl W3.heap.size W3).drew).alloc (Nat.le_refl _) o)
 have HCBO:=Lib.hid hcbo
 have HEBO:=Lib.hid hebo
 have HCBR:=Lib.hid hcb
 have c0:W3.cell? ⟨cb,0,none⟩ = some (.slice oa on oc):=by rw [cell_heap h0];rfl
 have e1:W3.cell? ⟨eb,1,none⟩ = some (.int .i64 nx):=by rw [cell_heap h1];rfl
 have e2:W3.cell? ⟨eb,2,none⟩ = some (.int .i64 dd):=by rw [cell_heap h1];rfl
 have e3:W3.cell? ⟨eb,3,none⟩ = some (.string (strL ename)):=by rw [cell_heap h1];rfl
 have ca2:∀ o,(W3.alloc o).cell? ⟨cb,0,none⟩ = some (.slice oa on oc):=fun o=>by rw [cell_heap ((Below.heap_alloc W3 o cb hlt3).trans h0)];rfl
 have honm:on + 1 ≤ 4294967296:=by omega
 conv=>arg 2;whnf
 rw [← ldOp_eq]
 have hld:=ldOp_eq
 clear h0 h1 h2 hR hcb hebo hon hcbo
 go_region_held3 (fun w'=>w'.cell? ⟨eb,1,none⟩ = some (.int .i64 nx) ∧ w'.cell? ⟨eb,2,none⟩ = some (.int .i64 dd) ∧ w'.cell? ⟨eb,3,none⟩ = some (.string (strL ename))) (go_keep) (first | (refine step_app _ rfl (.tmp 119) (.tmp 127) 22 rfl R 47 i0 _ 8 96 Tryz.underlying22 hi hz0 hz1 hz2 (by rfl) (by decide) (.slice oa on oc) on (ckC opn) (by rfl) (HOWA.out _) W3.heap.size 1 (ckRow (nx,dd,ename)) (by rfl) (by rfl) (HNEW.out _) (ckRow_one _) honm (by decide) (HLE3.out _) ?_;intro v6 w6 hown hap;obtain ⟨oa6,oc6,rfl,_⟩:=own_slice hown;have KC:=Lib.hid ((hap.keep (HCBA.out _).2 HCBO.out).trans (HCBA.out _).1);have KE:=Lib.hid ((hap.keep (HEBA.out _).2 HEBO.out).trans (HEBA.out _).1);have g1:w6.cell? ⟨eb,1,none⟩ = some (.int .i64 nx):=(by rw [cell_heap KE.out];rfl);have g2:w6.cell? ⟨eb,2,none⟩ = some (.int .i64 dd):=(by rw [cell_heap KE.out];rfl);have g3:w6.cell? ⟨eb,3,none⟩ = some (.string (strL ename)):=(by rw [cell_heap KE.out];rfl);have d0:w6.cell? ⟨cb,0,none⟩ = some (.slice oa on oc):=(by rw [cell_heap KC.out];rfl);have fz:∀ j,w6.frozen? ⟨cb,j,none⟩ = false:=(fun j=>frozen_heap KC.out);have HAP:=Lib.hid ((HMV.out _).trans (Moved.app hap));have HOWN:=Lib.hid hown;clear hap hown))
 all_goals
  refine hQ.out _ _ _ _ _ _ _ _ _ _ _ _ _ _ _ _ oa6 oc6 _ ?_ (HAP.out.set _ _) (setCell_heap KC.out _)
  exact own_block HOWN.out (fun k hk=>Below.heap_setCell _ _ _ _ (fun e=>by have:=(HOWN.out.lt k hk).1;have:=HCBR.out;have e':k = cb:=e;omega))
end Go.Proofs.YtgjokdngbocehaaGreatDoor
namespace Go.Proofs.YtgjokdngbocehaaGreatDoor
open Go.RowKit
set_option maxRecDepth 1000000 in
set_option maxHeartbeats 4000000 in
theorem take_open (R cb:Nat) (v:Value) (s:BegS) (en ed efr ett:Int) (ename etext:List UInt8) (A:Option Addr) (m c:Nat) (ats:List (List UInt8 × List UInt8)) (w:World) (h:Chk w R cb v s)
  (hb:begOk s ⟨0,en,ed,ename,ats,etext,efr,ett⟩ = true) (hA:AttrsAt w A m ats) (hnl:ename.length ≤ 1048576) (hl:∀ p ∈ ats,p.1.length ≤ 1048576 ∧ p.2.length ≤ 1048576) (hm:m ≤ 1048576)
  (hcap:s.opn.length < 1048576 ∧ s.next < 1048576) (hR:RangesAt w 2) (hT:Lib.Utf8Tabs 0 1 w) :
  Calls Tryz.prog 43 #[.pointer (some ⟨cb,0,none⟩),.agg (evC 0 en ed ename A m c etext efr ett)] w fun e w'=>∃ v',e = .returned (.bool true) ∧ Chk w' R cb v' (begNext s ⟨0,en,ed,ename,ats,etext,efr,ett⟩) ∧ Moved cb v v' w w':=by
 obtain ⟨i0,hi,hz0,hz1,hz2⟩:=info_parts infoEv
 have hb':((s.cnt = 0 ∨ s.opn ≠ []) ∧ en = s.next ∧ ed = (s.opn.length:Int) + 1 ∧ etext = []) ∧ nameB ename = true ∧ attrsB none ats = true:=by
  unfold begOk at hb
  rw [if_pos rfl] at hb
  simp only [Bool.and_eq_true,decide_eq_true_eq] at hb
  exact ⟨hb.1.1,hb.1.2,hb.2⟩
 obtain ⟨⟨hco,rfl,rfl,rfl⟩,hnb,hab⟩:=hb'
 have hlt:=h.lt
 have hle:=h.le
 obtain ⟨s',hs'⟩:∃ s',s' = begNext s ⟨0,s.next,(s.opn.length:Int) + 1,ename,ats,[],efr,ett⟩:=⟨_,rfl⟩
 have HS':Hid (s'.opn = (s.next,(s.opn.length:Int) + 1,ename) :: s.opn ∧ s'.next = s.next + 1 ∧ s'.text = false ∧ s'.cnt = s.cnt + 1):=Lib.hid (by rw [hs'];exact ⟨rfl,rfl,rfl,rfl⟩)
 rw [← hs']
 clear hs' hb
 obtain ⟨oa,oc,rfl,hoc,hoa,_⟩:=own_slice h.own
 have hdone:decide (s.opn = [] ∧ s.cnt ≠ 0) = false:=by
  rw [decide_eq_false_iff_not]
  rintro ⟨h1,h2⟩
  rcases hco with h | h
  ·exact h2 h
  ·exact h h1
 have hat:=h.at'
 rw [hdone] at hat
 have c0:=cell_heap (i:=0) hat
 have c1:=cell_heap (i:=1) hat
 have c2:=cell_heap (i:=2) hat
 have c3:=cell_heap (i:=3) hat
 simp only [List.getElem?_toArray,List.getElem?_cons_zero,List.getElem?_cons_succ] at c0 c1 c2 c3
 have hcbw:cb < w.heap.size:=by omega
 have hsm:=h.sm
 have HOP:Hid (∀ W,Below w.heap.size w W → Calls Tryz.prog 77 #[.pointer (some ⟨cb,0,none⟩),.agg (evC 0 s.next ((s.opn.length:Int) + 1) ename A m c [] efr ett)] W fun e w'=>e = .returned (.bool true) ∧ Below W.heap.size W w'):=Lib.hid fun W hW=>by
  have:=opens_any cb oa s.opn.length oc s.next 0 s.next ((s.opn.length:Int) + 1) efr ett ename [] A m c ats W ((hW.cell (p:=⟨cb,0,none⟩) hcbw).trans c0) ((hW.cell (p:=⟨cb,1,none⟩) hcbw).trans c1) (Nat.lt_of_lt_of_le hcbw hW.size) (hA.below hW) hnl hl hm (by omega) (hR.below hW) (Utf8Tabs_below hT hW)
  rw [hnb,hab,decide_eq_true ⟨rfl,rfl,rfl⟩] at this
  exact this
 have hz:s.opn = [] ∧ s.next = 0 ∨ s.opn ≠ [] ∧ 0 < s.opn.length:=by
  by_cases h0:s.opn = []
  ·rcases hco with h1 | h1
   ·exact .inl ⟨h0,h.fst h1⟩
   ·exact absurd h0 h1
  ·exact .inr ⟨h0,List.length_pos_iff.2 h0⟩
 have HH:=Lib.hid h
 have HAT:=Lib.hid hat
 unfold evC at *
 generalize strL [] = X at *
 have HN1:Hid (∀ o,Below w.heap.size w (w.alloc o) ∧ (w.alloc o).heap[w.heap.size]? = some o ∧ (w.alloc o).heap.size = w.heap.size + 1):=Lib.hid fun o=>⟨(Below.refl w.heap.size w).alloc (Nat.le_refl _) _,heap_alloc_new w _,by simp⟩
 have k0:=fun o=>((HN1.out o).1.cell (p:=⟨cb,0,none⟩) hcbw).trans c0
 have k1:=fun o=>((HN1.out o).1.cell (p:=⟨cb,1,none⟩) hcbw).trans c1
 have k2:=fun o=>((HN1.out o).1.cell (p:=⟨cb,2,none⟩) hcbw).trans c2
 have k3:=fun o=>((HN1.out o).1.cell (p:=⟨cb,3,none⟩) hcbw).trans c3
 have HCBW:=Lib.hid hcbw
 have HC:=Lib.hid (⟨c0,c1,c2,c3⟩:_ ∧ _ ∧ _ ∧ _)
 generalize hon:s.opn.length = on at *
 have HON:=Lib.hid hon
 generalize hnx:s.next = nx at *
 have HNX:=Lib.hid hnx
 have HHL:=Lib.hid hle
 have HLT:=Lib.hid hlt
 clear hat hco hab hnb hdone hl hnl hR hT hA c0 c1 c2 c3 hcbw hon hnx hle hlt hoc hoa
 go_enter Tryz.func43,Tryz.ntmps43
 go_wp2_with fail
 (with_reducible refine (HOP.out _ (HN1.out _).1).mono ?_)
 rintro e w2 ⟨rfl,hb2⟩
 have HB:=Lib.hid ((HN1.out _).1.trans (hb2.mono (HN1.out _).1.size))
 have HEB:=Lib.hid ((hb2.block w.heap.size (by rw [(HN1.out _).2.2];omega)).trans (HN1.out _).2.1)
 have HCB:=Lib.hid ((HB.out.block cb HCBW.out).trans HAT.out)
 have c0:=(HB.out.cell (p:=⟨cb,0,none⟩) HCBW.out).trans HC.out.1
 have c1:=(HB.out.cell (p:=⟨cb,1,none⟩) HCBW.out).trans HC.out.2.1
 have c2:=(HB.out.cell (p:=⟨cb,2,none⟩) HCBW.out).trans HC.out.2.2.1
 have fz:∀ j,w2.frozen? ⟨cb,j,none⟩ = false:=fun j=>frozen_heap HCB.out
 have e0:w2.cell? ⟨w.heap.size,0,none⟩ = some (.int .i64 0):=by rw [cell_heap HEB.out];rfl
 clear k0 k1 k2 k3 hb2
 have ew:IntKind.i64.wrap (nx + 1) = nx + 1:=IntWalk.i64_in _ (by omega)
 rcases hz with ⟨h1,h2⟩ | ⟨h1,h2⟩
 ·have hon0:on < 1:=by have:=HON.out;rw [h1] at this;simp at this;omega
  clear h1
  subst h2
  go_wp2_with fail
  have HS3:Hid (∀ j u,(w2.setCell ⟨cb,j,none⟩ u).heap.size = w2.heap.size):=Lib.hid fun j u=>by simp [World.setCell]
  have hebcb:cb ≠ w.heap.size:=Nat.ne_of_lt HCBW.out
  have HOW3:w2.ownsRow R 47 8 (.slice oa on oc) on (ckC s.opn):=by
   have h0:=HH.out.own
   rw [HON.out] at h0
   exact own_block h0 (fun k hk=>HB.out.block k (h0.lt k hk).2)
  have hnc:(Value.slice oa on oc).ownBlock ≠ some cb:=fun e=>by have:=(HOW3.lt _ e).1;have:=HLT.out;omega
  have hne:(Value.slice oa on oc).ownBlock ≠ some w.heap.size:=fun e=>by
   have h0:=HH.out.own
   rw [HON.out] at h0
   have:=(h0.lt _ e).2;omega
  refine take15_any R cb w.heap.size on _ ((on:Int) + 1) false false oa oc ename s.opn _ _ _ _ _ _ _ _ _ _ _ _ _ _ _ _ _ _ _ _ _ _ _ _ _ _ _ _ _ _ _ _ _ _ _ _ _ _ _ _ _ _ _ _ _ _ _ _ _ _ _ _ _ _ _ _ _ _ _ _ _ _ _ _ _ _ _ _ _ _ _ _ _ _ _ _ _ _ _ _ _ _ _ _ _ _ _ _ _ _ _ _ _ _ _ _ _ _ _ _ _ _ _ _ _ _ _ _ _ _ _ _ _ _ _ _ _ _ _ _ _ _ _ _ _ _ _ _ _ _ _ _ _ _ _ _ _ _ _ _ _ _ _ _ _ _ _ _ _ _ _ _ _ _ _ _ _ _ _ _ _ _ _ _ _ _ _ _ _ _ _ _ _ _ _ _ (setCell_heap HCB.out _) ((Below.heap_setCell _ _ _ _ (Ne.symm hebcb)).trans HEB.out) (own_block HOW3 (fun k hk=>Below.heap_setCell _ _ _ _ (fun e=>by have e':k = cb:=e;subst e';exact hnc hk))) (by rw [HS3.out];exact Nat.le_trans HHL.out HB.out.size) HLT.out hebcb hne (by omega) _ (Lib.hid fun y115 y116 y117 y118 y119 y120 y121 y122 y123 y124 y125 y126 y127 y128 y129 y130 oa6 oc6 w6 hown hmv hcb6=>?_)
  clear c0 c1 c2 fz HOW3
  have d1:w6.cell? ⟨cb,1,none⟩ = some (.int .i64 0):=by rw [cell_heap hcb6];rfl
  have fz6:∀ j,w6.frozen? ⟨cb,j,none⟩ = false:=fun j=>frozen_heap hcb6
  have X:=Lib.hid (⟨hown,hmv,hcb6⟩:_ ∧ _ ∧ _)
  clear hown hmv hcb6
  have e6:w6.cell? ⟨w.heap.size,0,none⟩ = some (.int .i64 0):=by
   have h:=X.out.2.1.block w.heap.size (by rw [HS3.out];exact heap_lt HEB.out) (Ne.symm hebcb) hne
   rw [cell_heap (h.trans ((Below.heap_setCell _ _ _ _ (Ne.symm hebcb)).trans HEB.out))];rfl
  go_wp2_with fail
  go_ret
  obtain ⟨hown,hmv,hcb6⟩:=X.out
  obtain ⟨t1,t2,t3,t4⟩:=HS'.out
  refine ⟨_,rfl,⟨HLT.out,?_,?_,?_,?_,?_⟩,((((Moved.of HB.out).set _ _).trans hmv).set _ _)⟩
  ·have:=hmv.size
   have:=HB.out.size
   have:=HHL.out
   rw [HS3.out] at *
   simp [World.setCell]
   omega
  ·rw [t1,t2,t3,decide_eq_false (by simp)]
   exact setCell_heap hcb6 _
  ·rw [t1,List.length_cons,HON.out,ckC_cons]
   exact own_block hown (fun k hk=>Below.heap_setCell _ _ _ _ (fun e=>by have:=(hown.lt k hk).1;have:=HLT.out;have e':k = cb:=e;omega))
  ·rw [t4];intro h;omega
  ·rw [t1,t2,List.length_cons,HON.out];omega
 ·go_wp2_with fail
  have HS3:Hid (∀ j u,(w2.setCell ⟨cb,j,none⟩ u).heap.size = w2.heap.size):=Lib.hid fun j u=>by simp [World.setCell]
  have hebcb:cb ≠ w.heap.size:=Nat.ne_of_lt HCBW.out
  have HOW3:w2.ownsRow R 47 8 (.slice oa on oc) on (ckC s.opn):=by
   have h0:=HH.out.own
   rw [HON.out] at h0
   exact own_block h0 (fun k hk=>HB.out.block k (h0.lt k hk).2)
  have hnc:(Value.slice oa on oc).ownBlock ≠ some cb:=fun e=>by have:=(HOW3.lt _ e).1;have:=HLT.out;omega
  have hne:(Value.slice oa on oc).ownBlock ≠ some w.heap.size:=fun e=>by
   have h0:=HH.out.own
   rw [HON.out] at h0
   have:=(h0.lt _ e).2;omega
  refine take15_any R cb w.heap.size on _ ((on:Int) + 1) false false oa oc ename s.opn _ _ _ _ _ _ _ _ _ _ _ _ _ _ _ _ _ _ _ _ _ _ _ _ _ _ _ _ _ _ _ _ _ _ _ _ _ _ _ _ _ _ _ _ _ _ _ _ _ _ _ _ _ _ _ _ _ _ _ _ _ _ _ _ _ _ _ _ _ _ _ _ _ _ _ _ _ _ _ _ _ _ _ _ _ _ _ _ _ _ _ _ _ _ _ _ _ _ _ _ _ _ _ _ _ _ _ _ _ _ _ _ _ _ _ _ _ _ _ _ _ _ _ _ _ _ _ _ _ _ _ _ _ _ _ _ _ _ _ _ _ _ _ _ _ _ _ _ _ _ _ _ _ _ _ _ _ _ _ _ _ _ _ _ _ _ _ _ _ _ _ _ _ _ _ _ (setCell_heap HCB.out _) ((Below.heap_setCell _ _ _ _ (Ne.symm hebcb)).trans HEB.out) (own_block HOW3 (fun k hk=>Below.heap_setCell _ _ _ _ (fun e=>by have e':k = cb:=e;subst e';exact hnc hk))) (by rw [HS3.out];exact Nat.le_trans HHL.out HB.out.size) HLT.out hebcb hne (by omega) _ (Lib.hid fun y115 y116 y117 y118 y119 y120 y121 y122 y123 y124 y125 y126 y127 y128 y129 y130 oa6 oc6 w6 hown hmv hcb6=>?_)
  clear c0 c1 c2 fz HOW3
  have d1:w6.cell? ⟨cb,1,none⟩ = some (.int .i64 nx):=by rw [cell_heap hcb6];rfl
  have fz6:∀ j,w6.frozen? ⟨cb,j,none⟩ = false:=fun j=>frozen_heap hcb6
  have X:=Lib.hid (⟨hown,hmv,hcb6⟩:_ ∧ _ ∧ _)
  clear hown hmv hcb6
  have e6:w6.cell? ⟨w.heap.size,0,none⟩ = some (.int .i64 0):=by
   have h:=X.out.2.1.block w.heap.size (by rw [HS3.out];exact heap_lt HEB.out) (Ne.symm hebcb) hne
   rw [cell_heap (h.trans ((Below.heap_setCell _ _ _ _ (Ne.symm hebcb)).trans HEB.out))];rfl
  go_wp2_with fail
  go_ret
  obtain ⟨hown,hmv,hcb6⟩:=X.out
  obtain ⟨t1,t2,t3,t4⟩:=HS'.out
  refine ⟨_,rfl,⟨HLT.out,?_,?_,?_,?_,?_⟩,((((Moved.of HB.out).set _ _).trans hmv).set _ _)⟩
  ·have:=hmv.size
   have:=HB.out.size
   have:=HHL.out
   rw [HS3.out] at *
   simp [World.setCell]
   omega
  ·rw [t1,t2,t3,decide_eq_false (by simp)]
   exact setCell_heap hcb6 _
  ·rw [t1,List.length_cons,HON.out,ckC_cons]
   exact own_block hown (fun k hk=>Below.heap_setCell _ _ _ _ (fun e=>by have:=(hown.lt k hk).1;have:=HLT.out;have e':k = cb:=e;omega))
  ·rw [t4];intro h;omega
  ·rw [t1,t2,List.length_cons,HON.out];omega
end Go.Proofs.YtgjokdngbocehaaGreatDoor
namespace Go.Proofs.YtgjokdngbocehaaGreatDoor
open Go.RowKit
set_option maxRecDepth 1000000 in
set_option maxHeartbeats 4000000 in
theorem take_text (R cb:Nat) (v:Value) (s:BegS) (en ed efr ett:Int) (ename etext:List UInt8) (A:Option Addr) (m c:Nat) (ats:List (List UInt8 × List UInt8)) (w:World) (h:Chk w R cb v s)
  (hb:begOk s ⟨1,en,ed,ename,ats,etext,efr,ett⟩ = true) (hA:AttrsAt w A m ats) (htl:etext.length ≤ 1048576)
  (hcap:s.next < 1048576) (hR:RangesAt w 2) (hT:Lib.Utf8Tabs 0 1 w) :
  Calls Tryz.prog 43 #[.pointer (some ⟨cb,0,none⟩),.agg (evC 1 en ed ename A m c etext efr ett)] w fun e w'=>∃ v',e = .returned (.bool true) ∧ Chk w' R cb v' (begNext s ⟨1,en,ed,ename,ats,etext,efr,ett⟩) ∧ Moved cb v v' w w':=by
 have hb':(s.opn ≠ [] ∧ en = s.next ∧ ed = (s.opn.length:Int) + 1 ∧ ename = [] ∧ ats = [] ∧ etext ≠ []) ∧ textsB etext = true ∧ s.text = false:=by
  unfold begOk at hb
  rw [if_neg (by simp),if_pos rfl] at hb
  simp only [Bool.and_eq_true,decide_eq_true_eq,Bool.not_eq_true'] at hb
  exact ⟨hb.1.1,hb.1.2,hb.2⟩
 obtain ⟨⟨hco,rfl,rfl,rfl,rfl,htx⟩,htb,htf⟩:=hb'
 have hm0:m = 0:=hA.1
 subst hm0
 have hlt:=h.lt
 have hle:=h.le
 obtain ⟨s',hs'⟩:∃ s',s' = begNext s ⟨1,s.next,(s.opn.length:Int) + 1,[],[],etext,efr,ett⟩:=⟨_,rfl⟩
 have HS':Hid (s'.opn = s.opn ∧ s'.next = s.next + 1 ∧ s'.text = true ∧ s'.cnt = s.cnt + 1):=Lib.hid (by rw [hs'];exact ⟨rfl,rfl,rfl,rfl⟩)
 rw [← hs']
 clear hs' hb
 obtain ⟨oa,oc,rfl,hoc,hoa,_⟩:=own_slice h.own
 have hdone:decide (s.opn = [] ∧ s.cnt ≠ 0) = false:=by
  rw [decide_eq_false_iff_not]
  exact fun ⟨h1,_⟩=>hco h1
 have hat:=h.at'
 rw [hdone,htf] at hat
 have c0:=cell_heap (i:=0) hat
 have c1:=cell_heap (i:=1) hat
 have c2:=cell_heap (i:=2) hat
 have c3:=cell_heap (i:=3) hat
 simp only [List.getElem?_toArray,List.getElem?_cons_zero,List.getElem?_cons_succ] at c0 c1 c2 c3
 have hcbw:cb < w.heap.size:=by omega
 have hsm:=h.sm
 have hlen:0 < s.opn.length:=List.length_pos_iff.2 hco
 have HTX:Hid (∀ W,Below w.heap.size w W → Calls Tryz.prog 78 #[.string (strL etext)] W fun e w'=>e = .returned (.bool true) ∧ Below W.heap.size W w'):=Lib.hid fun W hW=>by
  have:=Texts_any etext W (by omega) (hR.below hW) (Utf8Tabs_below hT hW)
  rw [htb] at this
  exact this
 have HH:=Lib.hid h
 have HAT:=Lib.hid hat
 have t1:(strL ([]:List UInt8)).toList.isEmpty = true:=strL_isE []
 have t2:(strL etext).toList.isEmpty = false:=by
  rw [strL_isE]
  cases etext with
  | nil=>exact absurd rfl htx
  | cons _ _=>rfl
 unfold evC at *
 generalize strL [] = X at *
 generalize strL etext = T at *
 have HN1:Hid (∀ o,Below w.heap.size w (w.alloc o) ∧ (w.alloc o).heap[w.heap.size]? = some o ∧ (w.alloc o).heap.size = w.heap.size + 1):=Lib.hid fun o=>⟨(Below.refl w.heap.size w).alloc (Nat.le_refl _) _,heap_alloc_new w _,by simp⟩
 have k3:=fun o=>((HN1.out o).1.cell (p:=⟨cb,3,none⟩) hcbw).trans c3
 have HCBW:=Lib.hid hcbw
 have HC:=Lib.hid (⟨c0,c1,c2,c3⟩:_ ∧ _ ∧ _ ∧ _)
 generalize hon:s.opn.length = on at *
 have HON:=Lib.hid hon
 generalize hnx:s.next = nx at *
 have HHL:=Lib.hid hle
 have HLT:=Lib.hid hlt
 have HCO:=Lib.hid hco
 clear hat hco hdone hR hT hA c0 c1 c2 c3 hcbw hon hnx hle hlt hoc hoa htf htx htb h htl
 have ew:IntKind.i64.wrap ((on:Int) + 1) = (on:Int) + 1:=IntWalk.i64_in _ (by omega)
 have ew2:IntKind.i64.wrap (nx + 1) = nx + 1:=IntWalk.i64_in _ (by omega)
 go_enter Tryz.func43,Tryz.ntmps43
 go_wp2_with fail
 obtain ⟨eb,heb⟩:∃ eb,eb = w.heap.size:=⟨_,rfl⟩
 obtain ⟨W1,hW1⟩:∃ W1,W1 = w.alloc (.cells #[.int .i64 1,.int .i64 nx,.int .i64 ((on:Int) + 1),.string X,.slice A 0 c,.string T,.int .i64 efr,.int .i64 ett] 47):=⟨_,rfl⟩
 rw [← hW1,← heb]
 obtain ⟨hb1,hn1,hz1⟩:=HN1.out (.cells #[.int .i64 1,.int .i64 nx,.int .i64 ((on:Int) + 1),.string X,.slice A 0 c,.string T,.int .i64 efr,.int .i64 ett] 47)
 rw [← hW1] at hb1 hn1 hz1
 rw [← heb] at hn1
 have hS:∀ w',Below W1.heap.size W1 w' → w'.cell? ⟨cb,0,none⟩ = some (.slice oa on oc) ∧ w'.cell? ⟨cb,1,none⟩ = some (.int .i64 nx) ∧ w'.cell? ⟨cb,2,none⟩ = some (.bool false) ∧ w'.cell? ⟨eb,1,none⟩ = some (.int .i64 nx) ∧ w'.cell? ⟨eb,2,none⟩ = some (.int .i64 ((on:Int) + 1)) ∧ w'.cell? ⟨eb,3,none⟩ = some (.string X) ∧ w'.cell? ⟨eb,4,none⟩ = some (.slice A 0 c) ∧ w'.cell? ⟨eb,5,none⟩ = some (.string T) ∧ Below W1.heap.size W1 w':=fun w' hb=>by
  have e:=(hb.block eb (by rw [hz1,heb];omega)).trans hn1
  have hb2:Below w.heap.size w w':=hb1.trans (hb.mono hb1.size)
  exact ⟨(hb2.cell (p:=⟨cb,0,none⟩) HCBW.out).trans HC.out.1,(hb2.cell (p:=⟨cb,1,none⟩) HCBW.out).trans HC.out.2.1,(hb2.cell (p:=⟨cb,2,none⟩) HCBW.out).trans HC.out.2.2.1,by rw [cell_heap e];rfl,by rw [cell_heap e];rfl,by rw [cell_heap e];rfl,by rw [cell_heap e];rfl,by rw [cell_heap e];rfl,hb⟩
 have HS:=Lib.hid hS
 have hS0:Below W1.heap.size W1 W1.drew:=(Below.refl _ _).drew
 have HTK:Hid (∀ w',Below W1.heap.size W1 w' → Calls Tryz.prog 78 #[.string T] w' fun e w''=>e = .returned (.bool true) ∧ Below W1.heap.size W1 w''):=Lib.hid fun w' hb=>(HTX.out w' (hb1.trans (hb.mono hb1.size))).mono fun e w'' h=>⟨h.1,hb.trans (h.2.mono hb.size)⟩
 have HB1:=Lib.hid hb1
 have HE1:=Lib.hid (⟨hn1,hz1,heb⟩:_ ∧ _ ∧ _)
 clear hS k3 hW1 hb1 hn1 hz1 heb
 go_region_held3 (fun w'=>w'.cell? ⟨cb,0,none⟩ = some (.slice oa on oc) ∧ w'.cell? ⟨cb,1,none⟩ = some (.int .i64 nx) ∧ w'.cell? ⟨cb,2,none⟩ = some (.bool false) ∧ w'.cell? ⟨eb,1,none⟩ = some (.int .i64 nx) ∧ w'.cell? ⟨eb,2,none⟩ = some (.int .i64 ((on:Int) + 1)) ∧ w'.cell? ⟨eb,3,none⟩ = some (.string X) ∧ w'.cell? ⟨eb,4,none⟩ = some (.slice A 0 c) ∧ w'.cell? ⟨eb,5,none⟩ = some (.string T) ∧ Below W1.heap.size W1 w') (first | exact HS.out _ ‹_› | go_keep) (first | (go_at_call 78;(with_reducible refine (HTK.out _ ‹_›).mono ?_);rintro e w3 ⟨rfl,hb3⟩))
 have hcb1:=HE1.out
 have HB3:=Lib.hid (HB1.out.trans (hb3.mono HB1.out.size))
 have HCB3:=Lib.hid ((HB3.out.block cb HCBW.out).trans HAT.out)
 obtain ⟨d0,d1,d2,e1,e2,e3,e4,e5,_⟩:=HS.out w3 hb3
 have e0:w3.cell? ⟨eb,0,none⟩ = some (.int .i64 1):=by
  have e:=(hb3.block eb (by rw [HE1.out.2.1,HE1.out.2.2];omega)).trans HE1.out.1
  rw [cell_heap e];rfl
 have fz:∀ j,w3.frozen? ⟨cb,j,none⟩ = false:=fun j=>frozen_heap HCB3.out
 have hebcb:cb ≠ eb:=by rw [HE1.out.2.2];exact Nat.ne_of_lt HCBW.out
 clear hb3 hcb1
 go_wp2_with fail
 go_ret
 obtain ⟨q1,q2,q3,q4⟩:=HS'.out
 refine ⟨_,rfl,⟨HLT.out,?_,?_,?_,?_,?_⟩,(((Moved.of HB3.out).set _ _).set _ _)⟩
 ·have:=HB3.out.size
  have:=HHL.out
  simp [World.setCell]
  omega
 ·rw [q1,q2,q3,decide_eq_false (fun h=>HCO.out h.1)]
  exact setCell_heap (setCell_heap HCB3.out _) _
 ·rw [q1,HON.out]
  have h0:=HH.out.own
  rw [HON.out] at h0
  exact own_block h0 (fun k hk=>by
   have hk2:k ≠ cb:=fun e=>by have:=(h0.lt k hk).1;have:=HLT.out;omega
   rw [Below.heap_setCell _ _ _ _ hk2,Below.heap_setCell _ _ _ _ hk2]
   exact HB3.out.block k (h0.lt k hk).2)
 ·rw [q4];intro h;omega
 ·rw [q1,q2,HON.out];omega
end Go.Proofs.YtgjokdngbocehaaGreatDoor
namespace Go.Proofs.YtgjokdngbocehaaGreatDoor
open Go.RowKit
def closeB (dn dd:Int) (dname:List UInt8) (en ed:Int) (ename etext:List UInt8) (m:Nat):Bool :=
 en == dn && (ed == dd && (decide (ename = dname) && (etext.isEmpty && m == 0)))
theorem closes_none (cb:Nat) (oa:Option Addr) (oc:Nat) (cells:Array Value) (w:World) (h0:w.cell? ⟨cb,0,none⟩ = some (.slice oa 0 oc)) (hcb:cb < w.heap.size) :
  Calls Tryz.prog 79 #[.pointer (some ⟨cb,0,none⟩),.agg cells] w fun e w'=>e = .returned (.bool false) ∧ Below w.heap.size w w':=by
 have h0':(w.alloc (.cells cells 47)).cell? ⟨cb,0,none⟩ = some (.slice oa 0 oc):=((((Below.refl w.heap.size w).alloc (Nat.le_refl _) (.cells cells 47)).cell (p:=⟨cb,0,none⟩) hcb)).trans h0
 clear h0
 go_enter Tryz.func79,Tryz.ntmps79
 go_wp2_with fail
 go_ret
 exact ⟨rfl,(Below.refl w.heap.size w).alloc (Nat.le_refl _) _⟩
set_option maxRecDepth 1000000 in
set_option maxHeartbeats 4000000 in
theorem closes_any (cb ob oo on oc:Nat) (dn dd:Int) (dname:List UInt8) (ek en ed efr ett:Int) (ename etext:List UInt8) (A:Option Addr) (m c:Nat) (w:World)
  (h0:w.cell? ⟨cb,0,none⟩ = some (.slice (some ⟨ob,oo,none⟩) (on + 1) oc)) (hcb:cb < w.heap.size) (hob:ob < w.heap.size) (hon:on ≤ 1048576)
  (c0:w.cell? ⟨ob,oo + on * 8,none⟩ = some (.int .i64 0)) (c1:w.cell? ⟨ob,oo + on * 8 + 1,none⟩ = some (.int .i64 dn)) (c2:w.cell? ⟨ob,oo + on * 8 + 2,none⟩ = some (.int .i64 dd)) (c3:w.cell? ⟨ob,oo + on * 8 + 3,none⟩ = some (.string (strL dname)))
  (c4:w.cell? ⟨ob,oo + on * 8 + 4,none⟩ = some (.slice none 0 0)) (c5:w.cell? ⟨ob,oo + on * 8 + 5,none⟩ = some (.string ⟨#[]⟩)) (c6:w.cell? ⟨ob,oo + on * 8 + 6,none⟩ = some (.int .i64 0)) (c7:w.cell? ⟨ob,oo + on * 8 + 7,none⟩ = some (.int .i64 0)) :
  Calls Tryz.prog 79 #[.pointer (some ⟨cb,0,none⟩),.agg (evC ek en ed ename A m c etext efr ett)] w fun e w'=>e = .returned (.bool (closeB dn dd dname en ed ename etext m)) ∧ Below w.heap.size w w':=by
 have e3:((strL ename).toList == (strL dname).toList) = decide (ename = dname):=by
  by_cases h:ename = dname
  ·rw [decide_eq_true h];exact cmpU_eq h
  ·rw [decide_eq_false h];exact cmpU_ne h
 have e4:(strL etext).toList.isEmpty = etext.isEmpty:=strU_empty etext
 have e5:((m:Int) == 0) = (m == 0):=by
  rcases m with _ | m
  ·rfl
  ·rw [show (m + 1 == 0) = false by rfl];simp;omega
 unfold closeB
 generalize decide (ename = dname) = b3 at *
 generalize etext.isEmpty = b4 at *
 generalize (m == 0) = b5 at *
 generalize b1e:(en == dn) = b1
 generalize b2e:(ed == dd) = b2
 generalize hN:strL ename = N at *
 generalize hD:strL dname = D at *
 generalize hX:strL etext = X at *
 unfold evC
 rw [hN,hX]
 clear hN hD hX
 have HB:Hid (∀ o,Below w.heap.size w (w.alloc o)):=Lib.hid fun o=>(Below.refl w.heap.size w).alloc (Nat.le_refl _) o
 have ew:IntKind.i64.wrap ((on:Int) + 1 - 1) = (on:Int):=by rw [IntWalk.i64_in _ (by omega)];omega
 cases b1 with
 | false =>
  go_enter Tryz.func79,Tryz.ntmps79
  have k0:=fun o=>((HB.out o).cell (p:=⟨cb,0,none⟩) hcb).trans h0
  have j0:=fun o=>((HB.out o).cell (p:=⟨ob,oo + on * 8,none⟩) hob).trans c0
  have j1:=fun o=>((HB.out o).cell (p:=⟨ob,oo + on * 8 + 1,none⟩) hob).trans c1
  have j2:=fun o=>((HB.out o).cell (p:=⟨ob,oo + on * 8 + 2,none⟩) hob).trans c2
  have j3:=fun o=>((HB.out o).cell (p:=⟨ob,oo + on * 8 + 3,none⟩) hob).trans c3
  have j4:=fun o=>((HB.out o).cell (p:=⟨ob,oo + on * 8 + 4,none⟩) hob).trans c4
  have j5:=fun o=>((HB.out o).cell (p:=⟨ob,oo + on * 8 + 5,none⟩) hob).trans c5
  have j6:=fun o=>((HB.out o).cell (p:=⟨ob,oo + on * 8 + 6,none⟩) hob).trans c6
  have j7:=fun o=>((HB.out o).cell (p:=⟨ob,oo + on * 8 + 7,none⟩) hob).trans c7
  clear h0 c0 c1 c2 c3 c4 c5 c6 c7
  go_wp2_with fail
  go_region
  go_wp2_with fail
  go_ret
  exact ⟨rfl,by first | exact ((((HB.out _).drew).alloc (by have:=(HB.out (.cells #[.int .i64 ek,.int .i64 en,.int .i64 ed,.string N,.slice A m c,.string X,.int .i64 efr,.int .i64 ett] 47)).size;simp at this ⊢) _)) | (trace_state;sorry)⟩
 | true =>
  cases b2 with
  | false =>
   go_enter Tryz.func79,Tryz.ntmps79
   have k0:=fun o=>((HB.out o).cell (p:=⟨cb,0,none⟩) hcb).trans h0
   have j0:=fun o=>((HB.out o).cell (p:=⟨ob,oo + on * 8,none⟩) hob).trans c0
   have j1:=fun o=>((HB.out o).cell (p:=⟨ob,oo + on * 8 + 1,none⟩) hob).trans c1
   have j2:=fun o=>((HB.out o).cell (p:=⟨ob,oo + on * 8 + 2,none⟩) hob).trans c2
   have j3:=fun o=>((HB.out o).cell (p:=⟨ob,oo + on * 8 + 3,none⟩) hob).trans c3
   have j4:=fun o=>((HB.out o).cell (p:=⟨ob,oo + on * 8 + 4,none⟩) hob).trans c4
   have j5:=fun o=>((HB.out o).cell (p:=⟨ob,oo + on * 8 + 5,none⟩) hob).trans c5
   have j6:=fun o=>((HB.out o).cell (p:=⟨ob,oo + on * 8 + 6,none⟩) hob).trans c6
   have j7:=fun o=>((HB.out o).cell (p:=⟨ob,oo + on * 8 + 7,none⟩) hob).trans c7
   clear h0 c0 c1 c2 c3 c4 c5 c6 c7
   go_wp2_with fail
   go_region
   go_wp2_with fail
   go_ret
   exact ⟨rfl,by first | exact ((((HB.out _).drew).alloc (by have:=(HB.out (.cells #[.int .i64 ek,.int .i64 en,.int .i64 ed,.string N,.slice A m c,.string X,.int .i64 efr,.int .i64 ett] 47)).size;simp at this ⊢) _)) | (trace_state;sorry)⟩
  | true =>
   cases b3 with
   | false =>
    go_enter Tryz.func79,Tryz.ntmps79
    have k0:=fun o=>((HB.out o).cell (p:=⟨cb,0,none⟩) hcb).trans h0
    have j0:=fun o=>((HB.out o).cell (p:=⟨ob,oo + on * 8,none⟩) hob).trans c0
    have j1:=fun o=>((HB.out o).cell (p:=⟨ob,oo + on * 8 + 1,none⟩) hob).trans c1
    have j2:=fun o=>((HB.out o).cell (p:=⟨ob,oo + on * 8 + 2,none⟩) hob).trans c2
    have j3:=fun o=>((HB.out o).cell (p:=⟨ob,oo + on * 8 + 3,none⟩) hob).trans c3
    have j4:=fun o=>((HB.out o).cell (p:=⟨ob,oo + on * 8 + 4,none⟩) hob).trans c4
    have j5:=fun o=>((HB.out o).cell (p:=⟨ob,oo + on * 8 + 5,none⟩) hob).trans c5
    have j6:=fun o=>((HB.out o).cell (p:=⟨ob,oo + on * 8 + 6,none⟩) hob).trans c6
    have j7:=fun o=>((HB.out o).cell (p:=⟨ob,oo + on * 8 + 7,none⟩) hob).trans c7
    clear h0 c0 c1 c2 c3 c4 c5 c6 c7
    go_wp2_with fail
    go_region
    go_wp2_with fail
    go_ret
    exact ⟨rfl,by first | exact ((((HB.out _).drew).alloc (by have:=(HB.out (.cells #[.int .i64 ek,.int .i64 en,.int .i64 ed,.string N,.slice A m c,.string X,.int .i64 efr,.int .i64 ett] 47)).size;simp at this ⊢) _)) | (trace_state;sorry)⟩
   | true =>
    cases b4 with
    | false =>
     go_enter Tryz.func79,Tryz.ntmps79
     have k0:=fun o=>((HB.out o).cell (p:=⟨cb,0,none⟩) hcb).trans h0
     have j0:=fun o=>((HB.out o).cell (p:=⟨ob,oo + on * 8,none⟩) hob).trans c0
     have j1:=fun o=>((HB.out o).cell (p:=⟨ob,oo + on * 8 + 1,none⟩) hob).trans c1
     have j2:=fun o=>((HB.out o).cell (p:=⟨ob,oo + on * 8 + 2,none⟩) hob).trans c2
     have j3:=fun o=>((HB.out o).cell (p:=⟨ob,oo + on * 8 + 3,none⟩) hob).trans c3
     have j4:=fun o=>((HB.out o).cell (p:=⟨ob,oo + on * 8 + 4,none⟩) hob).trans c4
     have j5:=fun o=>((HB.out o).cell (p:=⟨ob,oo + on * 8 + 5,none⟩) hob).trans c5
     have j6:=fun o=>((HB.out o).cell (p:=⟨ob,oo + on * 8 + 6,none⟩) hob).trans c6
     have j7:=fun o=>((HB.out o).cell (p:=⟨ob,oo + on * 8 + 7,none⟩) hob).trans c7
     clear h0 c0 c1 c2 c3 c4 c5 c6 c7
     go_wp2_with fail
     go_region
     go_wp2_with fail
     go_ret
     exact ⟨rfl,by first | exact ((((HB.out _).drew).alloc (by have:=(HB.out (.cells #[.int .i64 ek,.int .i64 en,.int .i64 ed,.string N,.slice A m c,.string X,.int .i64 efr,.int .i64 ett] 47)).size;simp at this ⊢) _)) | (trace_state;sorry)⟩
    | true =>
     cases b5 with
     | false =>
      go_enter Tryz.func79,Tryz.ntmps79
      have k0:=fun o=>((HB.out o).cell (p:=⟨cb,0,none⟩) hcb).trans h0
      have j0:=fun o=>((HB.out o).cell (p:=⟨ob,oo + on * 8,none⟩) hob).trans c0
      have j1:=fun o=>((HB.out o).cell (p:=⟨ob,oo + on * 8 + 1,none⟩) hob).trans c1
      have j2:=fun o=>((HB.out o).cell (p:=⟨ob,oo + on * 8 + 2,none⟩) hob).trans c2
      have j3:=fun o=>((HB.out o).cell (p:=⟨ob,oo + on * 8 + 3,none⟩) hob).trans c3
      have j4:=fun o=>((HB.out o).cell (p:=⟨ob,oo + on * 8 + 4,none⟩) hob).trans c4
      have j5:=fun o=>((HB.out o).cell (p:=⟨ob,oo + on * 8 + 5,none⟩) hob).trans c5
      have j6:=fun o=>((HB.out o).cell (p:=⟨ob,oo + on * 8 + 6,none⟩) hob).trans c6
      have j7:=fun o=>((HB.out o).cell (p:=⟨ob,oo + on * 8 + 7,none⟩) hob).trans c7
      clear h0 c0 c1 c2 c3 c4 c5 c6 c7
      go_wp2_with fail
      go_region
      go_wp2_with fail
      go_ret
      exact ⟨rfl,by first | exact ((((HB.out _).drew).alloc (by have:=(HB.out (.cells #[.int .i64 ek,.int .i64 en,.int .i64 ed,.string N,.slice A m c,.string X,.int .i64 efr,.int .i64 ett] 47)).size;simp at this ⊢) _)) | (trace_state;sorry)⟩
     | true =>
      go_enter Tryz.func79,Tryz.ntmps79
      have k0:=fun o=>((HB.out o).cell (p:=⟨cb,0,none⟩) hcb).trans h0
      have j0:=fun o=>((HB.out o).cell (p:=⟨ob,oo + on * 8,none⟩) hob).trans c0
      have j1:=fun o=>((HB.out o).cell (p:=⟨ob,oo + on * 8 + 1,none⟩) hob).trans c1
      have j2:=fun o=>((HB.out o).cell (p:=⟨ob,oo + on * 8 + 2,none⟩) hob).trans c2
      have j3:=fun o=>((HB.out o).cell (p:=⟨ob,oo + on * 8 + 3,none⟩) hob).trans c3
      have j4:=fun o=>((HB.out o).cell (p:=⟨ob,oo + on * 8 + 4,none⟩) hob).trans c4
      have j5:=fun o=>((HB.out o).cell (p:=⟨ob,oo + on * 8 + 5,none⟩) hob).trans c5
      have j6:=fun o=>((HB.out o).cell (p:=⟨ob,oo + on * 8 + 6,none⟩) hob).trans c6
      have j7:=fun o=>((HB.out o).cell (p:=⟨ob,oo + on * 8 + 7,none⟩) hob).trans c7
      clear h0 c0 c1 c2 c3 c4 c5 c6 c7
      go_wp2_with fail
      go_region
      go_wp2_with fail
      go_ret
      exact ⟨rfl,by first | exact ((((HB.out _).drew).alloc (by have:=(HB.out (.cells #[.int .i64 ek,.int .i64 en,.int .i64 ed,.string N,.slice A m c,.string X,.int .i64 efr,.int .i64 ett] 47)).size;simp at this ⊢) _)) | (trace_state;sorry)⟩
end Go.Proofs.YtgjokdngbocehaaGreatDoor
namespace Go.Proofs.YtgjokdngbocehaaGreatDoor
open Go.RowKit
set_option maxRecDepth 1000000 in
set_option maxHeartbeats 4000000 in
theorem take_close (R cb:Nat) (v:Value) (s:BegS) (en ed efr ett:Int) (ename etext:List UInt8) (A:Option Addr) (m c:Nat) (ats:List (List UInt8 × List UInt8)) (w:World) (h:Chk w R cb v s)
  (hb:begOk s ⟨2,en,ed,ename,ats,etext,efr,ett⟩ = true) (hA:AttrsAt w A m ats) :
  Calls Tryz.prog 43 #[.pointer (some ⟨cb,0,none⟩),.agg (evC 2 en ed ename A m c etext efr ett)] w fun e w'=>∃ v',e = .returned (.bool true) ∧ Chk w' R cb v' (begNext s ⟨2,en,ed,ename,ats,etext,efr,ett⟩) ∧ Moved cb v v' w w':=by
 have hb':etext = [] ∧ ats = [] ∧ s.opn.head? = some (en,ed,ename):=by
  unfold begOk at hb
  rw [if_neg (by simp),if_neg (by simp),if_pos rfl] at hb
  simpa only [decide_eq_true_eq] using hb
 obtain ⟨rfl,rfl,hhd⟩:=hb'
 have hm0:m = 0:=hA.1
 subst hm0
 obtain ⟨rest,hr⟩:∃ rest,s.opn = (en,ed,ename) :: rest:=by
  cases ho:s.opn with
  | nil=>rw [ho] at hhd;cases hhd
  | cons a r=>rw [ho] at hhd;simp at hhd;exact ⟨r,by rw [hhd]⟩
 have hlt:=h.lt
 have hle:=h.le
 obtain ⟨s',hs'⟩:∃ s',s' = begNext s ⟨2,en,ed,ename,[],[],efr,ett⟩:=⟨_,rfl⟩
 have HS':Hid (s'.opn = rest ∧ s'.next = s.next ∧ s'.text = false ∧ s'.cnt = s.cnt + 1):=Lib.hid (by rw [hs'];exact ⟨by simp [begNext,hr],by simp [begNext],by simp [begNext],rfl⟩)
 rw [← hs']
 clear hs' hb hhd
 obtain ⟨on,hon⟩:∃ on,rest.length = on:=⟨_,rfl⟩
 have hown:=h.own
 rw [hr,List.length_cons,hon] at hown
 obtain ⟨g,oc,rfl,hoc,hRg,hgw,_,hcells⟩:=own_some hown
 have hcell:∀ j,j < 8 → w.cell? ⟨g,0 + on * 8 + j,none⟩ = (ckRow (en,ed,ename))[j]?:=fun j hj=>by
  have h1:(ckRow (en,ed,ename)).length = 8:=rfl
  have h2:=ckC_top (en,ed,ename) rest j hj
  rw [hon] at h2
  rw [Nat.zero_add,List.getElem?_eq_getElem (by rw [h1];exact hj)]
  exact hcells _ _ (by rw [h2,List.getElem?_eq_getElem (by rw [h1];exact hj)])
 have hat:=h.at'
 have hdone:decide (s.opn = [] ∧ s.cnt ≠ 0) = false:=by rw [hr];simp
 rw [hdone] at hat
 have c0:=cell_heap (i:=0) hat
 have c1:=cell_heap (i:=1) hat
 have c2:=cell_heap (i:=2) hat
 have c3:=cell_heap (i:=3) hat
 simp only [List.getElem?_toArray,List.getElem?_cons_zero,List.getElem?_cons_succ] at c0 c1 c2 c3
 have hcbw:cb < w.heap.size:=by omega
 have hsm:=h.sm
 have hsml:on + 1 ≤ 1048576:=by have:=hsm.1;rw [hr,List.length_cons,hon] at this;exact this
 have HCL:Hid (∀ W,Below w.heap.size w W → Calls Tryz.prog 79 #[.pointer (some ⟨cb,0,none⟩),.agg (evC 2 en ed ename A 0 c [] efr ett)] W fun e w'=>e = .returned (.bool true) ∧ Below W.heap.size W w'):=Lib.hid fun W hW=>by
  have k:=fun j (hj:j < 8)=>(hW.cell (p:=⟨g,0 + on * 8 + j,none⟩) hgw).trans (hcell j hj)
  have:=closes_any cb g 0 on oc en ed ename 2 en ed efr ett ename [] A 0 c W ((hW.cell (p:=⟨cb,0,none⟩) hcbw).trans c0) (Nat.lt_of_lt_of_le hcbw hW.size) (Nat.lt_of_lt_of_le hgw hW.size) (by omega) (k 0 (by decide)) (k 1 (by decide)) (k 2 (by decide)) (k 3 (by decide)) (k 4 (by decide)) (k 5 (by decide)) (k 6 (by decide)) (k 7 (by decide))
  have hcl:closeB en ed ename en ed ename [] 0 = true:=by simp [closeB]
  rw [hcl] at this
  exact this
 have HH:=Lib.hid h
 have HAT:=Lib.hid hat
 have HOW:=Lib.hid hown
 unfold evC at *
 generalize strL [] = X at *
 generalize strL ename = N at *
 have HN1:Hid (∀ o,Below w.heap.size w (w.alloc o) ∧ (w.alloc o).heap[w.heap.size]? = some o ∧ (w.alloc o).heap.size = w.heap.size + 1):=Lib.hid fun o=>⟨(Below.refl w.heap.size w).alloc (Nat.le_refl _) _,heap_alloc_new w _,by simp⟩
 have k3:=fun o=>((HN1.out o).1.cell (p:=⟨cb,3,none⟩) hcbw).trans c3
 have HCBW:=Lib.hid hcbw
 have HC:=Lib.hid (⟨c0,c1,c2,c3⟩:_ ∧ _ ∧ _ ∧ _)
 have HHL:=Lib.hid hle
 have HLT:=Lib.hid hlt
 have HR:=Lib.hid hr
 have HG:=Lib.hid (⟨hRg,hgw⟩:_ ∧ _)
 have HON:=Lib.hid hon
 clear hat hdone hA c0 c1 c2 c3 hcbw hle hlt hr hown hcells hcell hRg hgw h hon
 have ew:IntKind.i64.wrap ((on:Int) + 1 - 1) = (on:Int):=by rw [IntWalk.i64_in _ (by omega)];omega
 go_enter Tryz.func43,Tryz.ntmps43
 go_wp2_with fail
 (with_reducible refine (HCL.out _ (HN1.out _).1).mono ?_)
 rintro e w2 ⟨rfl,hb2⟩
 have HB:=Lib.hid ((HN1.out _).1.trans (hb2.mono (HN1.out _).1.size))
 have HEB:=Lib.hid ((hb2.block w.heap.size (by rw [(HN1.out _).2.2];omega)).trans (HN1.out _).2.1)
 have HCB:=Lib.hid ((HB.out.block cb HCBW.out).trans HAT.out)
 have c0:=(HB.out.cell (p:=⟨cb,0,none⟩) HCBW.out).trans HC.out.1
 have c2:=(HB.out.cell (p:=⟨cb,2,none⟩) HCBW.out).trans HC.out.2.2.1
 have c3:=(HB.out.cell (p:=⟨cb,3,none⟩) HCBW.out).trans HC.out.2.2.2
 have fz:∀ j,w2.frozen? ⟨cb,j,none⟩ = false:=fun j=>frozen_heap HCB.out
 have e0:w2.cell? ⟨w.heap.size,0,none⟩ = some (.int .i64 2):=by rw [cell_heap HEB.out];rfl
 have hebcb:cb ≠ w.heap.size:=Nat.ne_of_lt HCBW.out
 clear k3 hb2
 go_wp2_with fail
 go_region
 go_wp2_with fail
 go_ret
 obtain ⟨q1,q2,q3,q4⟩:=HS'.out
 have hM:=(((Moved.of (cb:=cb) (v:=.slice (some ⟨g,0,none⟩) (on + 1) oc) HB.out).set 2 (.bool false)).set 0 (.slice (some ⟨g,0,none⟩) on oc))
 refine ⟨.slice (some ⟨g,0,none⟩) on oc,rfl,⟨HLT.out,?_,?_,?_,?_,?_⟩,?_⟩
 ·have:=HB.out.size
  have:=HHL.out
  simp [World.setCell]
  omega
 ·have hd:decide (s'.opn = [] ∧ s'.cnt ≠ 0) = ((on:Int) == 0):=by
   rw [q1,q4,← HON.out]
   cases rest with
   | nil=>simp
   | cons a r=>simp;omega
  rw [q2,q3,hd]
  exact setCell_heap (setCell_heap (setCell_heap HCB.out (.bool false)) (.slice (some ⟨g,0,none⟩) on oc)) (.bool ((on:Int) == 0))
 ·rw [q1,HON.out]
  have h0:=HOW.out
  rw [ckC_cons] at h0
  have h1:=own_pop h0 (by rw [ckC_length,HON.out])
  exact own_block h1 (fun k hk=>by
   have hk2:k ≠ cb:=fun e=>by have:=(h1.lt k hk).1;have:=HLT.out;omega
   show (((w2.setCell _ _).setCell _ _).setCell _ _).heap[k]? = _
   rw [Below.heap_setCell _ _ _ _ hk2,Below.heap_setCell _ _ _ _ hk2,Below.heap_setCell _ _ _ _ hk2]
   exact HB.out.block k (h1.lt k hk).2)
 ·rw [q4];intro h;omega
 ·rw [q1,q2,HON.out];omega
 ·have hM2:=(hM.set 3 (.bool ((on:Int) == 0))).drewN 1
  exact ⟨hM2.os,hM2.tape,hM2.output,hM2.size,hM2.block,.inl rfl⟩
end Go.Proofs.YtgjokdngbocehaaGreatDoor
namespace Go.Proofs.YtgjokdngbocehaaGreatDoor
open Go.RowKit
def EvSm (e:Ev):Prop:=e.name.length ≤ 1048576 ∧ e.text.length ≤ 1048576 ∧ e.ats.length ≤ 1048576 ∧ ∀ p ∈ e.ats,p.1.length ≤ 1048576 ∧ p.2.length ≤ 1048576
theorem take_ok (R cb:Nat) (v:Value) (s:BegS) (e:Ev) (A:Option Addr) (m c:Nat) (w:World) (h:Chk w R cb v s) (hb:begOk s e = true) (hA:AttrsAt w A m e.ats) (hsm:EvSm e)
  (hcap:s.opn.length < 1048576 ∧ s.next < 1048576) (hR:RangesAt w 2) (hT:Lib.Utf8Tabs 0 1 w) :
  Calls Tryz.prog 43 #[.pointer (some ⟨cb,0,none⟩),.agg (evC e.kind e.num e.dep e.name A m c e.text e.fr e.tt)] w fun r w'=>∃ v',r = .returned (.bool true) ∧ Chk w' R cb v' (begNext s e) ∧ Moved cb v v' w w':=by
 obtain ⟨kd,num,dep,name,ats,text,fr,tt⟩:=e
 obtain ⟨s1,s2,s3,s4⟩:=hsm
 simp only at *
 by_cases h2:kd = 2
 ·subst h2
  exact take_close R cb v s num dep fr tt name text A m c ats w h hb hA
 ·rcases (begOk_new hb h2).2 with h0 | h1
  ·simp only at h0
   subst h0
   exact take_open R cb v s num dep fr tt name text A m c ats w h hb hA s1 s4 (by rw [hA.1];exact s3) hcap hR hT
  ·simp only at h1
   subst h1
   exact take_text R cb v s num dep fr tt name text A m c ats w h hb hA s2 hcap.2 hR hT
theorem infoInt:(Tryz.prog.info? 3).map (fun i=>(i.zero,i.size,i.bytes)) = some (some (.int .i64 0),1,8):=by kernel_rfl
end Go.Proofs.YtgjokdngbocehaaGreatDoor
