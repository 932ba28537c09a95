/-
  (*tree.Check).Take of a Text: its seventh region where a test fails: the first six.
-/
import Derived.Test.YtgjokdngbocehaaGreatDoorHsE
import Derived.Test.YtgjokdngbocehaaGreatDoorHsG
namespace Go.Proofs.YtgjokdngbocehaaGreatDoor
open Go.RowKit
theorem pA {α:Type} (xs:List α) (i:Nat) (a:α):xs.toArray.setIfInBounds i a = (xs.set i a).toArray:=List.setIfInBounds_toArray ..
theorem pZ {α:Type} (x a:α) (l:List α):(x :: l).set 0 a = a :: l:=rfl
theorem pS {α:Type} (x a:α) (l:List α) (n:Nat):(x :: l).set (n + 1) a = x :: l.set n a:=rfl
theorem tk {P:Program} {md:Region.Mode} {ops:Array Oper} {Q:Exit → Act → World → Prop} {S:World → Prop} (i d:Nat) (v:Value) {op ty ps af gd} {fuel:Nat} {listed:Array Bool} {a:Act} {w:World}
  (h:wpAnyH P md ops Q S fuel (listed.setIfInBounds i true) (a.put (some d) v) w) (hy:∀ w,S w → (execOp a.eval ⟨some d,op,ty,ps,af,gd⟩).run P w = .ok (.value v) w)
  (hi:ops[i]? = some ⟨some d,op,ty,ps,af,gd⟩:=by rfl) (hs:Region.noSelect ops = true:=by kernel_rfl) (hf:Region.free md ops listed i = true:=by kernel_rfl) (hr:(Region.ready md ops listed).contains i = true:=by kernel_rfl)
  (hQ:∀ c a w,Q (.panic c) (Act.put a (some d) v) w → Q (.panic c) a w:=by exact fun _ _ _ h=>h) (hw:Region.wanted ⟨some d,op,ty,ps,af,gd⟩ (yielded ops a.tmps) = true:=by kernel_rfl) (hS:S w:=by assumption):wpAnyH P md ops Q S (fuel + 1) listed a w :=
 wpAnyH_take hi hs hf hr hQ (.inl ⟨hw,hy⟩) hS h
noncomputable def take7:Code:=((Tryz.f43.body.bind (regNo6 7)).getD .skip)
set_option maxRecDepth 1000000 in
set_option maxHeartbeats 4000000 in
theorem take7_done (SInv:World → Prop) (eb cb:Nat) (oa:Option Addr) (on oc:Nat) (nx en ed:Int) (tx:Bool) (X T:ByteArray) (A:Option Addr) (m c:Nat)  (u1 u2 u4 u6 u7 u8 u9 u10 u11 u12 u13 u14 u15 u16 u17 u18 u19 u20 u21 u22 u23 u24 u25 u26 u27 u28 u29 u30 u31 u32 u33 u34 u35 u36 u37 u38 u39 u40 u41 u42 u43 u44 u45 u46 u47 u48 u49 u50 u51 u52 u53 u54 u55 u56 u57 u58 u59 u60 u61 u62 u63 u64 u65 u66 u67 u68 u69 u70 u71 u72 u73 u74 u75 u76 u77 u78 u79 u80 u81 u82 u83 u84 u85 u86 u87 u88 u89 u90 u91 u92 u93 u94 u95 u96 u97 u98 u99 u100 u101 u102 u103 u104 u105 u106 u107 u108 u109 u110 u111 u112 u113 u114 u115 u116 u117 u118 u119 u120 u121 u122 u123 u124 u125 u126 u127 u128 u129 u130 u131 u132 u133 u134 u135 u136 u137 u138 u139 u140 u141 u142 u143 u144 u145 u146 u147 u148 u149 u150 u151 u152 u153 u154 u155 u156 u157 u158 u159 u160 u161 u162 u163 u164 u165 u166 u167 u168 u169 u170 u171:Value) (w:World)
  (HC:Hid (∀ w',SInv w' → w'.cell? ⟨cb,0,none⟩ = some (.slice oa on oc) ∧ w'.cell? ⟨cb,1,none⟩ = some (.int .i64 nx) ∧ w'.cell? ⟨cb,2,none⟩ = some (.bool tx) ∧ w'.cell? ⟨eb,1,none⟩ = some (.int .i64 en) ∧ w'.cell? ⟨eb,2,none⟩ = some (.int .i64 ed) ∧ w'.cell? ⟨eb,3,none⟩ = some (.string X) ∧ w'.cell? ⟨eb,4,none⟩ = some (.slice A m c) ∧ w'.cell? ⟨eb,5,none⟩ = some (.string T) ∧ SInv w'))
  (hS:SInv w.drew) (Q:Exit → Act → World → Prop) (hQ:Hid (∀ y38 y39 y40 y41 y42 y43 y44 y45 y46 y47 y48 y49 y50 y51 y52 y53 y54 y55 y56 y57 y58 y59 y60 y61 y62 y63 y64 y65 y66 y67 y68 y69 y70 y71 y72 y73 y74 y75 y76 y77 y78 y79 y80 y81 y82 y83 y84 y85 y86 y87 y88 y89 y90 y91 y92 y93 y94 w',SInv w' → Q .normal ⟨#[.pointer (some ⟨cb,0,none⟩),u1,u2,.pointer (some ⟨eb,0,none⟩),u4,.bool false,u6,u7,u8,u9,u10,u11,u12,u13,u14,u15,u16,u17,u18,u19,u20,u21,u22,u23,u24,u25,u26,u27,u28,u29,u30,u31,u32,u33,u34,u35,u36,u37,y38,y39,y40,y41,y42,y43,y44,y45,y46,y47,y48,y49,y50,y51,y52,y53,y54,y55,y56,y57,y58,y59,y60,y61,y62,y63,y64,y65,y66,y67,y68,y69,y70,y71,y72,y73,y74,y75,y76,y77,y78,y79,y80,y81,y82,y83,y84,y85,y86,y87,y88,y89,y90,y91,y92,y93,y94,u95,u96,u97,u98,u99,u100,u101,u102,u103,u104,u105,u106,u107,u108,u109,u110,u111,u112,u113,u114,u115,u116,u117,u118,u119,u120,u121,u122,u123,u124,u125,u126,u127,u128,u129,u130,u131,u132,u133,u134,u135,u136,u137,u138,u139,u140,u141,u142,u143,u144,u145,u146,u147,u148,u149,u150,u151,u152,u153,u154,u155,u156,u157,u158,u159,u160,u161,u162,u163,u164,u165,u166,u167,u168,u169,u170,u171],[]⟩ w')) :
  Code.wp Tryz.prog take7 Q ⟨#[.pointer (some ⟨cb,0,none⟩),u1,u2,.pointer (some ⟨eb,0,none⟩),u4,.bool false,u6,u7,u8,u9,u10,u11,u12,u13,u14,u15,u16,u17,u18,u19,u20,u21,u22,u23,u24,u25,u26,u27,u28,u29,u30,u31,u32,u33,u34,u35,u36,u37,u38,u39,u40,u41,u42,u43,u44,u45,u46,u47,u48,u49,u50,u51,u52,u53,u54,u55,u56,u57,u58,u59,u60,u61,u62,u63,u64,u65,u66,u67,u68,u69,u70,u71,u72,u73,u74,u75,u76,u77,u78,u79,u80,u81,u82,u83,u84,u85,u86,u87,u88,u89,u90,u91,u92,u93,u94,u95,u96,u97,u98,u99,u100,u101,u102,u103,u104,u105,u106,u107,u108,u109,u110,u111,u112,u113,u114,u115,u116,u117,u118,u119,u120,u121,u122,u123,u124,u125,u126,u127,u128,u129,u130,u131,u132,u133,u134,u135,u136,u137,u138,u139,u140,u141,u142,u143,u144,u145,u146,u147,u148,u149,u150,u151,u152,u153,u154,u155,u156,u157,u158,u159,u160,u161,u162,u163,u164,u165,u166,u167,u168,u169,u170,u171],[]⟩ w:=by
 conv=>arg 2;whnf
 have HQ0:=hQ.out
 refine wp_region_noPanic ?_
 refine wp_region_held_drew (S:=(fun w'=>w'.cell? ⟨cb,0,none⟩ = some (.slice oa on oc) ∧ w'.cell? ⟨cb,1,none⟩ = some (.int .i64 nx) ∧ w'.cell? ⟨cb,2,none⟩ = some (.bool tx) ∧ w'.cell? ⟨eb,1,none⟩ = some (.int .i64 en) ∧ w'.cell? ⟨eb,2,none⟩ = some (.int .i64 ed) ∧ w'.cell? ⟨eb,3,none⟩ = some (.string X) ∧ w'.cell? ⟨eb,4,none⟩ = some (.slice A m c) ∧ w'.cell? ⟨eb,5,none⟩ = some (.string T) ∧ SInv w')) (by kernel_rfl) (HC.out _ hS) (fun hHeld=>?_)
 refine tk 0 38 (.bool false) ?_ ?_
 try simp only [Act.put,pA,pZ,pS]
 refine tk 1 39 (.bool false) ?_ ?_
 try simp only [Act.put,pA,pZ,pS]
 refine wpAnyH_skips (fuel:=49) (by kernel_rfl) (fun _ _ _ _ h=>h) (by assumption) [2,3,4,5,6,7,8] [some 40,some 41,some 42,some 43,some 44,some 45,some 46] 7 _ _ rfl (by kernel_rfl) ?_
 simp only [listedAfter,putU,Act.put,pA,pZ,pS]
 refine tk 9 47 (.bool false) ?_ ?_
 try simp only [Act.put,pA,pZ,pS]
 refine tk 10 48 (.bool false) ?_ ?_
 try simp only [Act.put,pA,pZ,pS]
 refine wpAnyH_skips (fuel:=38) (by kernel_rfl) (fun _ _ _ _ h=>h) (by assumption) [11,12,13,14,15,16,17,18,19] [some 49,some 50,some 51,some 52,some 53,some 54,some 55,some 56,some 57] 9 _ _ rfl (by kernel_rfl) ?_
 simp only [listedAfter,putU,Act.put,pA,pZ,pS]
 refine tk 20 58 (.bool false) ?_ ?_
 try simp only [Act.put,pA,pZ,pS]
 refine tk 21 59 (.bool false) ?_ ?_
 try simp only [Act.put,pA,pZ,pS]
 refine wpAnyH_skips (fuel:=30) (by kernel_rfl) (fun _ _ _ _ h=>h) (by assumption) [22,23,24,25,26,27] [some 60,some 61,some 62,some 63,some 64,some 65] 6 _ _ rfl (by kernel_rfl) ?_
 simp only [listedAfter,putU,Act.put,pA,pZ,pS]
 refine tk 28 66 (.bool false) ?_ ?_
 try simp only [Act.put,pA,pZ,pS]
 refine tk 29 67 (.bool false) ?_ ?_
 try simp only [Act.put,pA,pZ,pS]
 refine wpAnyH_skips (fuel:=23) (by kernel_rfl) (fun _ _ _ _ h=>h) (by assumption) [30,31,32,33,34] [some 68,some 69,some 70,some 71,some 72] 5 _ _ rfl (by kernel_rfl) ?_
 simp only [listedAfter,putU,Act.put,pA,pZ,pS]
 refine tk 35 73 (.bool false) ?_ ?_
 try simp only [Act.put,pA,pZ,pS]
 refine tk 36 74 (.bool false) ?_ ?_
 try simp only [Act.put,pA,pZ,pS]
 refine wpAnyH_skips (fuel:=18) (by kernel_rfl) (fun _ _ _ _ h=>h) (by assumption) [37,38,39] [some 75,some 76,some 77] 3 _ _ rfl (by kernel_rfl) ?_
 simp only [listedAfter,putU,Act.put,pA,pZ,pS]
 refine tk 40 78 (.bool false) ?_ ?_
 try simp only [Act.put,pA,pZ,pS]
 refine tk 41 79 (.bool false) ?_ ?_
 try simp only [Act.put,pA,pZ,pS]
 refine wpAnyH_skips (fuel:=13) (by kernel_rfl) (fun _ _ _ _ h=>h) (by assumption) [42,43,44] [some 80,some 81,some 82] 3 _ _ rfl (by kernel_rfl) ?_
 simp only [listedAfter,putU,Act.put,pA,pZ,pS]
 refine tk 45 83 (.bool false) ?_ ?_
 try simp only [Act.put,pA,pZ,pS]
 refine tk 46 84 (.bool false) ?_ ?_
 try simp only [Act.put,pA,pZ,pS]
 refine wpAnyH_skips (fuel:=8) (by kernel_rfl) (fun _ _ _ _ h=>h) (by assumption) [47,48,49] [some 85,some 86,some 87] 3 _ _ rfl (by kernel_rfl) ?_
 simp only [listedAfter,putU,Act.put,pA,pZ,pS]
 refine tk 50 88 (.bool false) ?_ ?_
 try simp only [Act.put,pA,pZ,pS]
 refine tk 51 89 (.bool false) ?_ ?_
 try simp only [Act.put,pA,pZ,pS]
 refine wpAnyH_skips (fuel:=2) (by kernel_rfl) (fun _ _ _ _ h=>h) (by assumption) [52,53,54,55] [some 90,some 91,some 92,some 93] 4 _ _ rfl (by kernel_rfl) ?_
 simp only [listedAfter,putU,Act.put,pA,pZ,pS]
 refine tk 56 94 (.bool false) ?_ ?_
 try simp only [Act.put,pA,pZ,pS]
 refine tk 57 5 (.bool false) ?_ ?_
 try simp only [Act.put,pA,pZ,pS]
 refine wpAnyH_done (by kernel_rfl) ?_ _
 exact HQ0 _ _ _ _ _ _ _ _ _ _ _ _ _ _ _ _ _ _ _ _ _ _ _ _ _ _ _ _ _ _ _ _ _ _ _ _ _ _ _ _ _ _ _ _ _ _ _ _ _ _ _ _ _ _ _ _ _ _ hHeld.2.2.2.2.2.2.2.2
 all_goals (intro w hSw;(try dsimp only at hSw);(try obtain ⟨g1,g2,g3,g4,g5,g6,g7,g8,_⟩:=hSw);go_simp;first | done | with_reducible rfl | exact f3 | omega | rfl | simp)
set_option maxRecDepth 1000000 in
set_option maxHeartbeats 4000000 in
theorem take7_num (SInv:World → Prop) (eb cb:Nat) (oa:Option Addr) (on oc:Nat) (nx en ed:Int) (tx:Bool) (X T:ByteArray) (A:Option Addr) (m c:Nat) (f1:(en == nx) = false) (u1 u2 u4 u6 u7 u8 u9 u10 u11 u12 u13 u14 u15 u16 u17 u18 u19 u20 u21 u22 u23 u24 u25 u26 u27 u28 u29 u30 u31 u32 u33 u34 u35 u36 u37 u38 u39 u40 u41 u42 u43 u44 u45 u46 u47 u48 u49 u50 u51 u52 u53 u54 u55 u56 u57 u58 u59 u60 u61 u62 u63 u64 u65 u66 u67 u68 u69 u70 u71 u72 u73 u74 u75 u76 u77 u78 u79 u80 u81 u82 u83 u84 u85 u86 u87 u88 u89 u90 u91 u92 u93 u94 u95 u96 u97 u98 u99 u100 u101 u102 u103 u104 u105 u106 u107 u108 u109 u110 u111 u112 u113 u114 u115 u116 u117 u118 u119 u120 u121 u122 u123 u124 u125 u126 u127 u128 u129 u130 u131 u132 u133 u134 u135 u136 u137 u138 u139 u140 u141 u142 u143 u144 u145 u146 u147 u148 u149 u150 u151 u152 u153 u154 u155 u156 u157 u158 u159 u160 u161 u162 u163 u164 u165 u166 u167 u168 u169 u170 u171:Value) (w:World)
  (HC:Hid (∀ w',SInv w' → w'.cell? ⟨cb,0,none⟩ = some (.slice oa on oc) ∧ w'.cell? ⟨cb,1,none⟩ = some (.int .i64 nx) ∧ w'.cell? ⟨cb,2,none⟩ = some (.bool tx) ∧ w'.cell? ⟨eb,1,none⟩ = some (.int .i64 en) ∧ w'.cell? ⟨eb,2,none⟩ = some (.int .i64 ed) ∧ w'.cell? ⟨eb,3,none⟩ = some (.string X) ∧ w'.cell? ⟨eb,4,none⟩ = some (.slice A m c) ∧ w'.cell? ⟨eb,5,none⟩ = some (.string T) ∧ SInv w'))
  (hS:SInv w.drew) (Q:Exit → Act → World → Prop) (hQ:Hid (∀ y38 y39 y40 y41 y42 y43 y44 y45 y46 y47 y48 y49 y50 y51 y52 y53 y54 y55 y56 y57 y58 y59 y60 y61 y62 y63 y64 y65 y66 y67 y68 y69 y70 y71 y72 y73 y74 y75 y76 y77 y78 y79 y80 y81 y82 y83 y84 y85 y86 y87 y88 y89 y90 y91 y92 y93 y94 w',SInv w' → Q .normal ⟨#[.pointer (some ⟨cb,0,none⟩),u1,u2,.pointer (some ⟨eb,0,none⟩),u4,.bool false,u6,u7,u8,u9,u10,u11,u12,u13,u14,u15,u16,u17,u18,u19,u20,u21,u22,u23,u24,u25,u26,u27,u28,u29,u30,u31,u32,u33,u34,u35,u36,u37,y38,y39,y40,y41,y42,y43,y44,y45,y46,y47,y48,y49,y50,y51,y52,y53,y54,y55,y56,y57,y58,y59,y60,y61,y62,y63,y64,y65,y66,y67,y68,y69,y70,y71,y72,y73,y74,y75,y76,y77,y78,y79,y80,y81,y82,y83,y84,y85,y86,y87,y88,y89,y90,y91,y92,y93,y94,u95,u96,u97,u98,u99,u100,u101,u102,u103,u104,u105,u106,u107,u108,u109,u110,u111,u112,u113,u114,u115,u116,u117,u118,u119,u120,u121,u122,u123,u124,u125,u126,u127,u128,u129,u130,u131,u132,u133,u134,u135,u136,u137,u138,u139,u140,u141,u142,u143,u144,u145,u146,u147,u148,u149,u150,u151,u152,u153,u154,u155,u156,u157,u158,u159,u160,u161,u162,u163,u164,u165,u166,u167,u168,u169,u170,u171],[]⟩ w')) :
  Code.wp Tryz.prog take7 Q ⟨#[.pointer (some ⟨cb,0,none⟩),u1,u2,.pointer (some ⟨eb,0,none⟩),u4,.bool true,u6,u7,u8,u9,u10,u11,u12,u13,u14,u15,u16,u17,u18,u19,u20,u21,u22,u23,u24,u25,u26,u27,u28,u29,u30,u31,u32,u33,u34,u35,u36,u37,u38,u39,u40,u41,u42,u43,u44,u45,u46,u47,u48,u49,u50,u51,u52,u53,u54,u55,u56,u57,u58,u59,u60,u61,u62,u63,u64,u65,u66,u67,u68,u69,u70,u71,u72,u73,u74,u75,u76,u77,u78,u79,u80,u81,u82,u83,u84,u85,u86,u87,u88,u89,u90,u91,u92,u93,u94,u95,u96,u97,u98,u99,u100,u101,u102,u103,u104,u105,u106,u107,u108,u109,u110,u111,u112,u113,u114,u115,u116,u117,u118,u119,u120,u121,u122,u123,u124,u125,u126,u127,u128,u129,u130,u131,u132,u133,u134,u135,u136,u137,u138,u139,u140,u141,u142,u143,u144,u145,u146,u147,u148,u149,u150,u151,u152,u153,u154,u155,u156,u157,u158,u159,u160,u161,u162,u163,u164,u165,u166,u167,u168,u169,u170,u171],[]⟩ w:=by
 conv=>arg 2;whnf
 have HQ0:=hQ.out
 refine wp_region_noPanic ?_
 refine wp_region_held_drew (S:=(fun w'=>w'.cell? ⟨cb,0,none⟩ = some (.slice oa on oc) ∧ w'.cell? ⟨cb,1,none⟩ = some (.int .i64 nx) ∧ w'.cell? ⟨cb,2,none⟩ = some (.bool tx) ∧ w'.cell? ⟨eb,1,none⟩ = some (.int .i64 en) ∧ w'.cell? ⟨eb,2,none⟩ = some (.int .i64 ed) ∧ w'.cell? ⟨eb,3,none⟩ = some (.string X) ∧ w'.cell? ⟨eb,4,none⟩ = some (.slice A m c) ∧ w'.cell? ⟨eb,5,none⟩ = some (.string T) ∧ SInv w')) (by kernel_rfl) (HC.out _ hS) (fun hHeld=>?_)
 refine tk 0 38 (.bool true) ?_ ?_
 try simp only [Act.put,pA,pZ,pS]
 refine tk 1 39 (.bool true) ?_ ?_
 try simp only [Act.put,pA,pZ,pS]
 refine tk 2 40 (.pointer (some ⟨eb,1,none⟩)) ?_ ?_
 try simp only [Act.put,pA,pZ,pS]
 refine tk 3 41 (.int .i64 en) ?_ ?_
 try simp only [Act.put,pA,pZ,pS]
 refine tk 4 42 (.pointer (some ⟨cb,0,none⟩)) ?_ ?_
 try simp only [Act.put,pA,pZ,pS]
 refine tk 5 43 (.pointer (some ⟨cb,0,none⟩)) ?_ ?_
 try simp only [Act.put,pA,pZ,pS]
 refine tk 6 44 (.pointer (some ⟨cb,1,none⟩)) ?_ ?_
 try simp only [Act.put,pA,pZ,pS]
 refine tk 7 45 (.int .i64 nx) ?_ ?_
 try simp only [Act.put,pA,pZ,pS]
 refine tk 8 46 (.bool false) ?_ ?_
 try simp only [Act.put,pA,pZ,pS]
 refine tk 9 47 (.bool false) ?_ ?_
 try simp only [Act.put,pA,pZ,pS]
 refine tk 10 48 (.bool false) ?_ ?_
 try simp only [Act.put,pA,pZ,pS]
 refine wpAnyH_skips (fuel:=38) (by kernel_rfl) (fun _ _ _ _ h=>h) (by assumption) [11,12,13,14,15,16,17,18,19] [some 49,some 50,some 51,some 52,some 53,some 54,some 55,some 56,some 57] 9 _ _ rfl (by kernel_rfl) ?_
 simp only [listedAfter,putU,Act.put,pA,pZ,pS]
 refine tk 20 58 (.bool false) ?_ ?_
 try simp only [Act.put,pA,pZ,pS]
 refine tk 21 59 (.bool false) ?_ ?_
 try simp only [Act.put,pA,pZ,pS]
 refine wpAnyH_skips (fuel:=30) (by kernel_rfl) (fun _ _ _ _ h=>h) (by assumption) [22,23,24,25,26,27] [some 60,some 61,some 62,some 63,some 64,some 65] 6 _ _ rfl (by kernel_rfl) ?_
 simp only [listedAfter,putU,Act.put,pA,pZ,pS]
 refine tk 28 66 (.bool false) ?_ ?_
 try simp only [Act.put,pA,pZ,pS]
 refine tk 29 67 (.bool false) ?_ ?_
 try simp only [Act.put,pA,pZ,pS]
 refine wpAnyH_skips (fuel:=23) (by kernel_rfl) (fun _ _ _ _ h=>h) (by assumption) [30,31,32,33,34] [some 68,some 69,some 70,some 71,some 72] 5 _ _ rfl (by kernel_rfl) ?_
 simp only [listedAfter,putU,Act.put,pA,pZ,pS]
 refine tk 35 73 (.bool false) ?_ ?_
 try simp only [Act.put,pA,pZ,pS]
 refine tk 36 74 (.bool false) ?_ ?_
 try simp only [Act.put,pA,pZ,pS]
 refine wpAnyH_skips (fuel:=18) (by kernel_rfl) (fun _ _ _ _ h=>h) (by assumption) [37,38,39] [some 75,some 76,some 77] 3 _ _ rfl (by kernel_rfl) ?_
 simp only [listedAfter,putU,Act.put,pA,pZ,pS]
 refine tk 40 78 (.bool false) ?_ ?_
 try simp only [Act.put,pA,pZ,pS]
 refine tk 41 79 (.bool false) ?_ ?_
 try simp only [Act.put,pA,pZ,pS]
 refine wpAnyH_skips (fuel:=13) (by kernel_rfl) (fun _ _ _ _ h=>h) (by assumption) [42,43,44] [some 80,some 81,some 82] 3 _ _ rfl (by kernel_rfl) ?_
 simp only [listedAfter,putU,Act.put,pA,pZ,pS]
 refine tk 45 83 (.bool false) ?_ ?_
 try simp only [Act.put,pA,pZ,pS]
 refine tk 46 84 (.bool false) ?_ ?_
 try simp only [Act.put,pA,pZ,pS]
 refine wpAnyH_skips (fuel:=8) (by kernel_rfl) (fun _ _ _ _ h=>h) (by assumption) [47,48,49] [some 85,some 86,some 87] 3 _ _ rfl (by kernel_rfl) ?_
 simp only [listedAfter,putU,Act.put,pA,pZ,pS]
 refine tk 50 88 (.bool false) ?_ ?_
 try simp only [Act.put,pA,pZ,pS]
 refine tk 51 89 (.bool false) ?_ ?_
 try simp only [Act.put,pA,pZ,pS]
 refine wpAnyH_skips (fuel:=2) (by kernel_rfl) (fun _ _ _ _ h=>h) (by assumption) [52,53,54,55] [some 90,some 91,some 92,some 93] 4 _ _ rfl (by kernel_rfl) ?_
 simp only [listedAfter,putU,Act.put,pA,pZ,pS]
 refine tk 56 94 (.bool false) ?_ ?_
 try simp only [Act.put,pA,pZ,pS]
 refine tk 57 5 (.bool false) ?_ ?_
 try simp only [Act.put,pA,pZ,pS]
 refine wpAnyH_done (by kernel_rfl) ?_ _
 exact HQ0 _ _ _ _ _ _ _ _ _ _ _ _ _ _ _ _ _ _ _ _ _ _ _ _ _ _ _ _ _ _ _ _ _ _ _ _ _ _ _ _ _ _ _ _ _ _ _ _ _ _ _ _ _ _ _ _ _ _ hHeld.2.2.2.2.2.2.2.2
 all_goals (intro w hSw;(try dsimp only at hSw);(try obtain ⟨g1,g2,g3,g4,g5,g6,g7,g8,_⟩:=hSw);go_simp;first | done | with_reducible rfl | exact f3 | omega | rfl | simp [f1])
set_option maxRecDepth 1000000 in
set_option maxHeartbeats 4000000 in
theorem take7_dep (SInv:World → Prop) (eb cb:Nat) (oa:Option Addr) (on oc:Nat) (nx ed:Int) (tx:Bool) (X T:ByteArray) (A:Option Addr) (m c:Nat) (f2:(ed == (on:Int) + 1) = false) (ew:IntKind.i64.wrap ((on:Int) + 1) = (on:Int) + 1) (u1 u2 u4 u6 u7 u8 u9 u10 u11 u12 u13 u14 u15 u16 u17 u18 u19 u20 u21 u22 u23 u24 u25 u26 u27 u28 u29 u30 u31 u32 u33 u34 u35 u36 u37 u38 u39 u40 u41 u42 u43 u44 u45 u46 u47 u48 u49 u50 u51 u52 u53 u54 u55 u56 u57 u58 u59 u60 u61 u62 u63 u64 u65 u66 u67 u68 u69 u70 u71 u72 u73 u74 u75 u76 u77 u78 u79 u80 u81 u82 u83 u84 u85 u86 u87 u88 u89 u90 u91 u92 u93 u94 u95 u96 u97 u98 u99 u100 u101 u102 u103 u104 u105 u106 u107 u108 u109 u110 u111 u112 u113 u114 u115 u116 u117 u118 u119 u120 u121 u122 u123 u124 u125 u126 u127 u128 u129 u130 u131 u132 u133 u134 u135 u136 u137 u138 u139 u140 u141 u142 u143 u144 u145 u146 u147 u148 u149 u150 u151 u152 u153 u154 u155 u156 u157 u158 u159 u160 u161 u162 u163 u164 u165 u166 u167 u168 u169 u170 u171:Value) (w:World)
  (HC:Hid (∀ w',SInv w' → w'.cell? ⟨cb,0,none⟩ = some (.slice oa on oc) ∧ w'.cell? ⟨cb,1,none⟩ = some (.int .i64 nx) ∧ w'.cell? ⟨cb,2,none⟩ = some (.bool tx) ∧ w'.cell? ⟨eb,1,none⟩ = some (.int .i64 nx) ∧ w'.cell? ⟨eb,2,none⟩ = some (.int .i64 ed) ∧ w'.cell? ⟨eb,3,none⟩ = some (.string X) ∧ w'.cell? ⟨eb,4,none⟩ = some (.slice A m c) ∧ w'.cell? ⟨eb,5,none⟩ = some (.string T) ∧ SInv w'))
  (hS:SInv w.drew) (Q:Exit → Act → World → Prop) (hQ:Hid (∀ y38 y39 y40 y41 y42 y43 y44 y45 y46 y47 y48 y49 y50 y51 y52 y53 y54 y55 y56 y57 y58 y59 y60 y61 y62 y63 y64 y65 y66 y67 y68 y69 y70 y71 y72 y73 y74 y75 y76 y77 y78 y79 y80 y81 y82 y83 y84 y85 y86 y87 y88 y89 y90 y91 y92 y93 y94 w',SInv w' → Q .normal ⟨#[.pointer (some ⟨cb,0,none⟩),u1,u2,.pointer (some ⟨eb,0,none⟩),u4,.bool false,u6,u7,u8,u9,u10,u11,u12,u13,u14,u15,u16,u17,u18,u19,u20,u21,u22,u23,u24,u25,u26,u27,u28,u29,u30,u31,u32,u33,u34,u35,u36,u37,y38,y39,y40,y41,y42,y43,y44,y45,y46,y47,y48,y49,y50,y51,y52,y53,y54,y55,y56,y57,y58,y59,y60,y61,y62,y63,y64,y65,y66,y67,y68,y69,y70,y71,y72,y73,y74,y75,y76,y77,y78,y79,y80,y81,y82,y83,y84,y85,y86,y87,y88,y89,y90,y91,y92,y93,y94,u95,u96,u97,u98,u99,u100,u101,u102,u103,u104,u105,u106,u107,u108,u109,u110,u111,u112,u113,u114,u115,u116,u117,u118,u119,u120,u121,u122,u123,u124,u125,u126,u127,u128,u129,u130,u131,u132,u133,u134,u135,u136,u137,u138,u139,u140,u141,u142,u143,u144,u145,u146,u147,u148,u149,u150,u151,u152,u153,u154,u155,u156,u157,u158,u159,u160,u161,u162,u163,u164,u165,u166,u167,u168,u169,u170,u171],[]⟩ w')) :
  Code.wp Tryz.prog take7 Q ⟨#[.pointer (some ⟨cb,0,none⟩),u1,u2,.pointer (some ⟨eb,0,none⟩),u4,.bool true,u6,u7,u8,u9,u10,u11,u12,u13,u14,u15,u16,u17,u18,u19,u20,u21,u22,u23,u24,u25,u26,u27,u28,u29,u30,u31,u32,u33,u34,u35,u36,u37,u38,u39,u40,u41,u42,u43,u44,u45,u46,u47,u48,u49,u50,u51,u52,u53,u54,u55,u56,u57,u58,u59,u60,u61,u62,u63,u64,u65,u66,u67,u68,u69,u70,u71,u72,u73,u74,u75,u76,u77,u78,u79,u80,u81,u82,u83,u84,u85,u86,u87,u88,u89,u90,u91,u92,u93,u94,u95,u96,u97,u98,u99,u100,u101,u102,u103,u104,u105,u106,u107,u108,u109,u110,u111,u112,u113,u114,u115,u116,u117,u118,u119,u120,u121,u122,u123,u124,u125,u126,u127,u128,u129,u130,u131,u132,u133,u134,u135,u136,u137,u138,u139,u140,u141,u142,u143,u144,u145,u146,u147,u148,u149,u150,u151,u152,u153,u154,u155,u156,u157,u158,u159,u160,u161,u162,u163,u164,u165,u166,u167,u168,u169,u170,u171],[]⟩ w:=by
 conv=>arg 2;whnf
 have HQ0:=hQ.out
 refine wp_region_noPanic ?_
 refine wp_region_held_drew (S:=(fun w'=>w'.cell? ⟨cb,0,none⟩ = some (.slice oa on oc) ∧ w'.cell? ⟨cb,1,none⟩ = some (.int .i64 nx) ∧ w'.cell? ⟨cb,2,none⟩ = some (.bool tx) ∧ w'.cell? ⟨eb,1,none⟩ = some (.int .i64 nx) ∧ w'.cell? ⟨eb,2,none⟩ = some (.int .i64 ed) ∧ w'.cell? ⟨eb,3,none⟩ = some (.string X) ∧ w'.cell? ⟨eb,4,none⟩ = some (.slice A m c) ∧ w'.cell? ⟨eb,5,none⟩ = some (.string T) ∧ SInv w')) (by kernel_rfl) (HC.out _ hS) (fun hHeld=>?_)
 refine tk 0 38 (.bool true) ?_ ?_
 try simp only [Act.put,pA,pZ,pS]
 refine tk 1 39 (.bool true) ?_ ?_
 try simp only [Act.put,pA,pZ,pS]
 refine tk 2 40 (.pointer (some ⟨eb,1,none⟩)) ?_ ?_
 try simp only [Act.put,pA,pZ,pS]
 refine tk 3 41 (.int .i64 nx) ?_ ?_
 try simp only [Act.put,pA,pZ,pS]
 refine tk 4 42 (.pointer (some ⟨cb,0,none⟩)) ?_ ?_
 try simp only [Act.put,pA,pZ,pS]
 refine tk 5 43 (.pointer (some ⟨cb,0,none⟩)) ?_ ?_
 try simp only [Act.put,pA,pZ,pS]
 refine tk 6 44 (.pointer (some ⟨cb,1,none⟩)) ?_ ?_
 try simp only [Act.put,pA,pZ,pS]
 refine tk 7 45 (.int .i64 nx) ?_ ?_
 try simp only [Act.put,pA,pZ,pS]
 refine tk 8 46 (.bool true) ?_ ?_
 try simp only [Act.put,pA,pZ,pS]
 refine tk 9 47 (.bool true) ?_ ?_
 try simp only [Act.put,pA,pZ,pS]
 refine tk 10 48 (.bool true) ?_ ?_
 try simp only [Act.put,pA,pZ,pS]
 refine tk 11 49 (.pointer (some ⟨eb,2,none⟩)) ?_ ?_
 try simp only [Act.put,pA,pZ,pS]
 refine tk 12 50 (.int .i64 ed) ?_ ?_
 try simp only [Act.put,pA,pZ,pS]
 refine tk 13 51 (.pointer (some ⟨cb,0,none⟩)) ?_ ?_
 try simp only [Act.put,pA,pZ,pS]
 refine tk 14 52 (.pointer (some ⟨cb,0,none⟩)) ?_ ?_
 try simp only [Act.put,pA,pZ,pS]
 refine tk 15 53 (.pointer (some ⟨cb,0,none⟩)) ?_ ?_
 try simp only [Act.put,pA,pZ,pS]
 refine tk 16 54 (.slice oa on oc) ?_ ?_
 try simp only [Act.put,pA,pZ,pS]
 refine tk 17 55 (.int .i64 (on:Nat)) ?_ ?_
 try simp only [Act.put,pA,pZ,pS]
 refine tk 18 56 (.int .i64 ((on:Int) + 1)) ?_ ?_
 try simp only [Act.put,pA,pZ,pS]
 refine tk 19 57 (.bool false) ?_ ?_
 try simp only [Act.put,pA,pZ,pS]
 refine tk 20 58 (.bool false) ?_ ?_
 try simp only [Act.put,pA,pZ,pS]
 refine tk 21 59 (.bool false) ?_ ?_
 try simp only [Act.put,pA,pZ,pS]
 refine wpAnyH_skips (fuel:=30) (by kernel_rfl) (fun _ _ _ _ h=>h) (by assumption) [22,23,24,25,26,27] [some 60,some 61,some 62,some 63,some 64,some 65] 6 _ _ rfl (by kernel_rfl) ?_
 simp only [listedAfter,putU,Act.put,pA,pZ,pS]
 refine tk 28 66 (.bool false) ?_ ?_
 try simp only [Act.put,pA,pZ,pS]
 refine tk 29 67 (.bool false) ?_ ?_
 try simp only [Act.put,pA,pZ,pS]
 refine wpAnyH_skips (fuel:=23) (by kernel_rfl) (fun _ _ _ _ h=>h) (by assumption) [30,31,32,33,34] [some 68,some 69,some 70,some 71,some 72] 5 _ _ rfl (by kernel_rfl) ?_
 simp only [listedAfter,putU,Act.put,pA,pZ,pS]
 refine tk 35 73 (.bool false) ?_ ?_
 try simp only [Act.put,pA,pZ,pS]
 refine tk 36 74 (.bool false) ?_ ?_
 try simp only [Act.put,pA,pZ,pS]
 refine wpAnyH_skips (fuel:=18) (by kernel_rfl) (fun _ _ _ _ h=>h) (by assumption) [37,38,39] [some 75,some 76,some 77] 3 _ _ rfl (by kernel_rfl) ?_
 simp only [listedAfter,putU,Act.put,pA,pZ,pS]
 refine tk 40 78 (.bool false) ?_ ?_
 try simp only [Act.put,pA,pZ,pS]
 refine tk 41 79 (.bool false) ?_ ?_
 try simp only [Act.put,pA,pZ,pS]
 refine wpAnyH_skips (fuel:=13) (by kernel_rfl) (fun _ _ _ _ h=>h) (by assumption) [42,43,44] [some 80,some 81,some 82] 3 _ _ rfl (by kernel_rfl) ?_
 simp only [listedAfter,putU,Act.put,pA,pZ,pS]
 refine tk 45 83 (.bool false) ?_ ?_
 try simp only [Act.put,pA,pZ,pS]
 refine tk 46 84 (.bool false) ?_ ?_
 try simp only [Act.put,pA,pZ,pS]
 refine wpAnyH_skips (fuel:=8) (by kernel_rfl) (fun _ _ _ _ h=>h) (by assumption) [47,48,49] [some 85,some 86,some 87] 3 _ _ rfl (by kernel_rfl) ?_
 simp only [listedAfter,putU,Act.put,pA,pZ,pS]
 refine tk 50 88 (.bool false) ?_ ?_
 try simp only [Act.put,pA,pZ,pS]
 refine tk 51 89 (.bool false) ?_ ?_
 try simp only [Act.put,pA,pZ,pS]
 refine wpAnyH_skips (fuel:=2) (by kernel_rfl) (fun _ _ _ _ h=>h) (by assumption) [52,53,54,55] [some 90,some 91,some 92,some 93] 4 _ _ rfl (by kernel_rfl) ?_
 simp only [listedAfter,putU,Act.put,pA,pZ,pS]
 refine tk 56 94 (.bool false) ?_ ?_
 try simp only [Act.put,pA,pZ,pS]
 refine tk 57 5 (.bool false) ?_ ?_
 try simp only [Act.put,pA,pZ,pS]
 refine wpAnyH_done (by kernel_rfl) ?_ _
 exact HQ0 _ _ _ _ _ _ _ _ _ _ _ _ _ _ _ _ _ _ _ _ _ _ _ _ _ _ _ _ _ _ _ _ _ _ _ _ _ _ _ _ _ _ _ _ _ _ _ _ _ _ _ _ _ _ _ _ _ _ hHeld.2.2.2.2.2.2.2.2
 all_goals (intro w hSw;(try dsimp only at hSw);(try obtain ⟨g1,g2,g3,g4,g5,g6,g7,g8,_⟩:=hSw);go_simp;first | done | with_reducible rfl | exact f3 | omega | rfl | simp [f2,ew])
set_option maxRecDepth 1000000 in
set_option maxHeartbeats 4000000 in
theorem take7_none (SInv:World → Prop) (eb cb:Nat) (oa:Option Addr) (on oc:Nat) (nx:Int) (tx:Bool) (X T:ByteArray) (A:Option Addr) (m c:Nat) (f3:on = 0) (u1 u2 u4 u6 u7 u8 u9 u10 u11 u12 u13 u14 u15 u16 u17 u18 u19 u20 u21 u22 u23 u24 u25 u26 u27 u28 u29 u30 u31 u32 u33 u34 u35 u36 u37 u38 u39 u40 u41 u42 u43 u44 u45 u46 u47 u48 u49 u50 u51 u52 u53 u54 u55 u56 u57 u58 u59 u60 u61 u62 u63 u64 u65 u66 u67 u68 u69 u70 u71 u72 u73 u74 u75 u76 u77 u78 u79 u80 u81 u82 u83 u84 u85 u86 u87 u88 u89 u90 u91 u92 u93 u94 u95 u96 u97 u98 u99 u100 u101 u102 u103 u104 u105 u106 u107 u108 u109 u110 u111 u112 u113 u114 u115 u116 u117 u118 u119 u120 u121 u122 u123 u124 u125 u126 u127 u128 u129 u130 u131 u132 u133 u134 u135 u136 u137 u138 u139 u140 u141 u142 u143 u144 u145 u146 u147 u148 u149 u150 u151 u152 u153 u154 u155 u156 u157 u158 u159 u160 u161 u162 u163 u164 u165 u166 u167 u168 u169 u170 u171:Value) (w:World)
  (HC:Hid (∀ w',SInv w' → w'.cell? ⟨cb,0,none⟩ = some (.slice oa on oc) ∧ w'.cell? ⟨cb,1,none⟩ = some (.int .i64 nx) ∧ w'.cell? ⟨cb,2,none⟩ = some (.bool tx) ∧ w'.cell? ⟨eb,1,none⟩ = some (.int .i64 nx) ∧ w'.cell? ⟨eb,2,none⟩ = some (.int .i64 ((on:Int) + 1)) ∧ w'.cell? ⟨eb,3,none⟩ = some (.string X) ∧ w'.cell? ⟨eb,4,none⟩ = some (.slice A m c) ∧ w'.cell? ⟨eb,5,none⟩ = some (.string T) ∧ SInv w'))
  (hS:SInv w.drew) (Q:Exit → Act → World → Prop) (hQ:Hid (∀ y38 y39 y40 y41 y42 y43 y44 y45 y46 y47 y48 y49 y50 y51 y52 y53 y54 y55 y56 y57 y58 y59 y60 y61 y62 y63 y64 y65 y66 y67 y68 y69 y70 y71 y72 y73 y74 y75 y76 y77 y78 y79 y80 y81 y82 y83 y84 y85 y86 y87 y88 y89 y90 y91 y92 y93 y94 w',SInv w' → Q .normal ⟨#[.pointer (some ⟨cb,0,none⟩),u1,u2,.pointer (some ⟨eb,0,none⟩),u4,.bool false,u6,u7,u8,u9,u10,u11,u12,u13,u14,u15,u16,u17,u18,u19,u20,u21,u22,u23,u24,u25,u26,u27,u28,u29,u30,u31,u32,u33,u34,u35,u36,u37,y38,y39,y40,y41,y42,y43,y44,y45,y46,y47,y48,y49,y50,y51,y52,y53,y54,y55,y56,y57,y58,y59,y60,y61,y62,y63,y64,y65,y66,y67,y68,y69,y70,y71,y72,y73,y74,y75,y76,y77,y78,y79,y80,y81,y82,y83,y84,y85,y86,y87,y88,y89,y90,y91,y92,y93,y94,u95,u96,u97,u98,u99,u100,u101,u102,u103,u104,u105,u106,u107,u108,u109,u110,u111,u112,u113,u114,u115,u116,u117,u118,u119,u120,u121,u122,u123,u124,u125,u126,u127,u128,u129,u130,u131,u132,u133,u134,u135,u136,u137,u138,u139,u140,u141,u142,u143,u144,u145,u146,u147,u148,u149,u150,u151,u152,u153,u154,u155,u156,u157,u158,u159,u160,u161,u162,u163,u164,u165,u166,u167,u168,u169,u170,u171],[]⟩ w')) :
  Code.wp Tryz.prog take7 Q ⟨#[.pointer (some ⟨cb,0,none⟩),u1,u2,.pointer (some ⟨eb,0,none⟩),u4,.bool true,u6,u7,u8,u9,u10,u11,u12,u13,u14,u15,u16,u17,u18,u19,u20,u21,u22,u23,u24,u25,u26,u27,u28,u29,u30,u31,u32,u33,u34,u35,u36,u37,u38,u39,u40,u41,u42,u43,u44,u45,u46,u47,u48,u49,u50,u51,u52,u53,u54,u55,u56,u57,u58,u59,u60,u61,u62,u63,u64,u65,u66,u67,u68,u69,u70,u71,u72,u73,u74,u75,u76,u77,u78,u79,u80,u81,u82,u83,u84,u85,u86,u87,u88,u89,u90,u91,u92,u93,u94,u95,u96,u97,u98,u99,u100,u101,u102,u103,u104,u105,u106,u107,u108,u109,u110,u111,u112,u113,u114,u115,u116,u117,u118,u119,u120,u121,u122,u123,u124,u125,u126,u127,u128,u129,u130,u131,u132,u133,u134,u135,u136,u137,u138,u139,u140,u141,u142,u143,u144,u145,u146,u147,u148,u149,u150,u151,u152,u153,u154,u155,u156,u157,u158,u159,u160,u161,u162,u163,u164,u165,u166,u167,u168,u169,u170,u171],[]⟩ w:=by
 conv=>arg 2;whnf
 have HQ0:=hQ.out
 refine wp_region_noPanic ?_
 refine wp_region_held_drew (S:=(fun w'=>w'.cell? ⟨cb,0,none⟩ = some (.slice oa on oc) ∧ w'.cell? ⟨cb,1,none⟩ = some (.int .i64 nx) ∧ w'.cell? ⟨cb,2,none⟩ = some (.bool tx) ∧ w'.cell? ⟨eb,1,none⟩ = some (.int .i64 nx) ∧ w'.cell? ⟨eb,2,none⟩ = some (.int .i64 ((on:Int) + 1)) ∧ w'.cell? ⟨eb,3,none⟩ = some (.string X) ∧ w'.cell? ⟨eb,4,none⟩ = some (.slice A m c) ∧ w'.cell? ⟨eb,5,none⟩ = some (.string T) ∧ SInv w')) (by kernel_rfl) (HC.out _ hS) (fun hHeld=>?_)
 refine tk 0 38 (.bool true) ?_ ?_
 try simp only [Act.put,pA,pZ,pS]
 refine tk 1 39 (.bool true) ?_ ?_
 try simp only [Act.put,pA,pZ,pS]
 refine tk 2 40 (.pointer (some ⟨eb,1,none⟩)) ?_ ?_
 try simp only [Act.put,pA,pZ,pS]
 refine tk 3 41 (.int .i64 nx) ?_ ?_
 try simp only [Act.put,pA,pZ,pS]
 refine tk 4 42 (.pointer (some ⟨cb,0,none⟩)) ?_ ?_
 try simp only [Act.put,pA,pZ,pS]
 refine tk 5 43 (.pointer (some ⟨cb,0,none⟩)) ?_ ?_
 try simp only [Act.put,pA,pZ,pS]
 refine tk 6 44 (.pointer (some ⟨cb,1,none⟩)) ?_ ?_
 try simp only [Act.put,pA,pZ,pS]
 refine tk 7 45 (.int .i64 nx) ?_ ?_
 try simp only [Act.put,pA,pZ,pS]
 refine tk 8 46 (.bool true) ?_ ?_
 try simp only [Act.put,pA,pZ,pS]
 refine tk 9 47 (.bool true) ?_ ?_
 try simp only [Act.put,pA,pZ,pS]
 refine tk 10 48 (.bool true) ?_ ?_
 try simp only [Act.put,pA,pZ,pS]
 refine tk 11 49 (.pointer (some ⟨eb,2,none⟩)) ?_ ?_
 try simp only [Act.put,pA,pZ,pS]
 refine tk 12 50 (.int .i64 ((on:Int) + 1)) ?_ ?_
 try simp only [Act.put,pA,pZ,pS]
 refine tk 13 51 (.pointer (some ⟨cb,0,none⟩)) ?_ ?_
 try simp only [Act.put,pA,pZ,pS]
 refine tk 14 52 (.pointer (some ⟨cb,0,none⟩)) ?_ ?_
 try simp only [Act.put,pA,pZ,pS]
 refine tk 15 53 (.pointer (some ⟨cb,0,none⟩)) ?_ ?_
 try simp only [Act.put,pA,pZ,pS]
 refine tk 16 54 (.slice oa on oc) ?_ ?_
 try simp only [Act.put,pA,pZ,pS]
 refine tk 17 55 (.int .i64 (on:Nat)) ?_ ?_
 try simp only [Act.put,pA,pZ,pS]
 refine tk 18 56 (.int .i64 ((on:Int) + 1)) ?_ ?_
 try simp only [Act.put,pA,pZ,pS]
 refine tk 19 57 (.bool true) ?_ ?_
 try simp only [Act.put,pA,pZ,pS]
 refine tk 20 58 (.bool true) ?_ ?_
 try simp only [Act.put,pA,pZ,pS]
 refine tk 21 59 (.bool true) ?_ ?_
 try simp only [Act.put,pA,pZ,pS]
 refine tk 22 60 (.pointer (some ⟨cb,0,none⟩)) ?_ ?_
 try simp only [Act.put,pA,pZ,pS]
 refine tk 23 61 (.pointer (some ⟨cb,0,none⟩)) ?_ ?_
 try simp only [Act.put,pA,pZ,pS]
 refine tk 24 62 (.pointer (some ⟨cb,0,none⟩)) ?_ ?_
 try simp only [Act.put,pA,pZ,pS]
 refine tk 25 63 (.slice oa on oc) ?_ ?_
 try simp only [Act.put,pA,pZ,pS]
 refine tk 26 64 (.int .i64 (on:Nat)) ?_ ?_
 try simp only [Act.put,pA,pZ,pS]
 refine tk 27 65 (.bool false) ?_ ?_
 try simp only [Act.put,pA,pZ,pS]
 refine tk 28 66 (.bool false) ?_ ?_
 try simp only [Act.put,pA,pZ,pS]
 refine tk 29 67 (.bool false) ?_ ?_
 try simp only [Act.put,pA,pZ,pS]
 refine wpAnyH_skips (fuel:=23) (by kernel_rfl) (fun _ _ _ _ h=>h) (by assumption) [30,31,32,33,34] [some 68,some 69,some 70,some 71,some 72] 5 _ _ rfl (by kernel_rfl) ?_
 simp only [listedAfter,putU,Act.put,pA,pZ,pS]
 refine tk 35 73 (.bool false) ?_ ?_
 try simp only [Act.put,pA,pZ,pS]
 refine tk 36 74 (.bool false) ?_ ?_
 try simp only [Act.put,pA,pZ,pS]
 refine wpAnyH_skips (fuel:=18) (by kernel_rfl) (fun _ _ _ _ h=>h) (by assumption) [37,38,39] [some 75,some 76,some 77] 3 _ _ rfl (by kernel_rfl) ?_
 simp only [listedAfter,putU,Act.put,pA,pZ,pS]
 refine tk 40 78 (.bool false) ?_ ?_
 try simp only [Act.put,pA,pZ,pS]
 refine tk 41 79 (.bool false) ?_ ?_
 try simp only [Act.put,pA,pZ,pS]
 refine wpAnyH_skips (fuel:=13) (by kernel_rfl) (fun _ _ _ _ h=>h) (by assumption) [42,43,44] [some 80,some 81,some 82] 3 _ _ rfl (by kernel_rfl) ?_
 simp only [listedAfter,putU,Act.put,pA,pZ,pS]
 refine tk 45 83 (.bool false) ?_ ?_
 try simp only [Act.put,pA,pZ,pS]
 refine tk 46 84 (.bool false) ?_ ?_
 try simp only [Act.put,pA,pZ,pS]
 refine wpAnyH_skips (fuel:=8) (by kernel_rfl) (fun _ _ _ _ h=>h) (by assumption) [47,48,49] [some 85,some 86,some 87] 3 _ _ rfl (by kernel_rfl) ?_
 simp only [listedAfter,putU,Act.put,pA,pZ,pS]
 refine tk 50 88 (.bool false) ?_ ?_
 try simp only [Act.put,pA,pZ,pS]
 refine tk 51 89 (.bool false) ?_ ?_
 try simp only [Act.put,pA,pZ,pS]
 refine wpAnyH_skips (fuel:=2) (by kernel_rfl) (fun _ _ _ _ h=>h) (by assumption) [52,53,54,55] [some 90,some 91,some 92,some 93] 4 _ _ rfl (by kernel_rfl) ?_
 simp only [listedAfter,putU,Act.put,pA,pZ,pS]
 refine tk 56 94 (.bool false) ?_ ?_
 try simp only [Act.put,pA,pZ,pS]
 refine tk 57 5 (.bool false) ?_ ?_
 try simp only [Act.put,pA,pZ,pS]
 refine wpAnyH_done (by kernel_rfl) ?_ _
 exact HQ0 _ _ _ _ _ _ _ _ _ _ _ _ _ _ _ _ _ _ _ _ _ _ _ _ _ _ _ _ _ _ _ _ _ _ _ _ _ _ _ _ _ _ _ _ _ _ _ _ _ _ _ _ _ _ _ _ _ _ hHeld.2.2.2.2.2.2.2.2
 all_goals (intro w hSw;(try dsimp only at hSw);(try obtain ⟨g1,g2,g3,g4,g5,g6,g7,g8,_⟩:=hSw);go_simp;first | done | with_reducible rfl | exact f3 | omega | rfl | simp [f3])
set_option maxRecDepth 1000000 in
set_option maxHeartbeats 4000000 in
theorem take7_text (SInv:World → Prop) (eb cb:Nat) (oa:Option Addr) (on oc:Nat) (nx:Int) (X T:ByteArray) (A:Option Addr) (m c:Nat) (ew:IntKind.i64.wrap ((on:Int) + 1) = (on:Int) + 1) (f3:0 < on) (u1 u2 u4 u6 u7 u8 u9 u10 u11 u12 u13 u14 u15 u16 u17 u18 u19 u20 u21 u22 u23 u24 u25 u26 u27 u28 u29 u30 u31 u32 u33 u34 u35 u36 u37 u38 u39 u40 u41 u42 u43 u44 u45 u46 u47 u48 u49 u50 u51 u52 u53 u54 u55 u56 u57 u58 u59 u60 u61 u62 u63 u64 u65 u66 u67 u68 u69 u70 u71 u72 u73 u74 u75 u76 u77 u78 u79 u80 u81 u82 u83 u84 u85 u86 u87 u88 u89 u90 u91 u92 u93 u94 u95 u96 u97 u98 u99 u100 u101 u102 u103 u104 u105 u106 u107 u108 u109 u110 u111 u112 u113 u114 u115 u116 u117 u118 u119 u120 u121 u122 u123 u124 u125 u126 u127 u128 u129 u130 u131 u132 u133 u134 u135 u136 u137 u138 u139 u140 u141 u142 u143 u144 u145 u146 u147 u148 u149 u150 u151 u152 u153 u154 u155 u156 u157 u158 u159 u160 u161 u162 u163 u164 u165 u166 u167 u168 u169 u170 u171:Value) (w:World)
  (HC:Hid (∀ w',SInv w' → w'.cell? ⟨cb,0,none⟩ = some (.slice oa on oc) ∧ w'.cell? ⟨cb,1,none⟩ = some (.int .i64 nx) ∧ w'.cell? ⟨cb,2,none⟩ = some (.bool true) ∧ w'.cell? ⟨eb,1,none⟩ = some (.int .i64 nx) ∧ w'.cell? ⟨eb,2,none⟩ = some (.int .i64 ((on:Int) + 1)) ∧ w'.cell? ⟨eb,3,none⟩ = some (.string X) ∧ w'.cell? ⟨eb,4,none⟩ = some (.slice A m c) ∧ w'.cell? ⟨eb,5,none⟩ = some (.string T) ∧ SInv w'))
  (hS:SInv w.drew) (Q:Exit → Act → World → Prop) (hQ:Hid (∀ y38 y39 y40 y41 y42 y43 y44 y45 y46 y47 y48 y49 y50 y51 y52 y53 y54 y55 y56 y57 y58 y59 y60 y61 y62 y63 y64 y65 y66 y67 y68 y69 y70 y71 y72 y73 y74 y75 y76 y77 y78 y79 y80 y81 y82 y83 y84 y85 y86 y87 y88 y89 y90 y91 y92 y93 y94 w',SInv w' → Q .normal ⟨#[.pointer (some ⟨cb,0,none⟩),u1,u2,.pointer (some ⟨eb,0,none⟩),u4,.bool false,u6,u7,u8,u9,u10,u11,u12,u13,u14,u15,u16,u17,u18,u19,u20,u21,u22,u23,u24,u25,u26,u27,u28,u29,u30,u31,u32,u33,u34,u35,u36,u37,y38,y39,y40,y41,y42,y43,y44,y45,y46,y47,y48,y49,y50,y51,y52,y53,y54,y55,y56,y57,y58,y59,y60,y61,y62,y63,y64,y65,y66,y67,y68,y69,y70,y71,y72,y73,y74,y75,y76,y77,y78,y79,y80,y81,y82,y83,y84,y85,y86,y87,y88,y89,y90,y91,y92,y93,y94,u95,u96,u97,u98,u99,u100,u101,u102,u103,u104,u105,u106,u107,u108,u109,u110,u111,u112,u113,u114,u115,u116,u117,u118,u119,u120,u121,u122,u123,u124,u125,u126,u127,u128,u129,u130,u131,u132,u133,u134,u135,u136,u137,u138,u139,u140,u141,u142,u143,u144,u145,u146,u147,u148,u149,u150,u151,u152,u153,u154,u155,u156,u157,u158,u159,u160,u161,u162,u163,u164,u165,u166,u167,u168,u169,u170,u171],[]⟩ w')) :
  Code.wp Tryz.prog take7 Q ⟨#[.pointer (some ⟨cb,0,none⟩),u1,u2,.pointer (some ⟨eb,0,none⟩),u4,.bool true,u6,u7,u8,u9,u10,u11,u12,u13,u14,u15,u16,u17,u18,u19,u20,u21,u22,u23,u24,u25,u26,u27,u28,u29,u30,u31,u32,u33,u34,u35,u36,u37,u38,u39,u40,u41,u42,u43,u44,u45,u46,u47,u48,u49,u50,u51,u52,u53,u54,u55,u56,u57,u58,u59,u60,u61,u62,u63,u64,u65,u66,u67,u68,u69,u70,u71,u72,u73,u74,u75,u76,u77,u78,u79,u80,u81,u82,u83,u84,u85,u86,u87,u88,u89,u90,u91,u92,u93,u94,u95,u96,u97,u98,u99,u100,u101,u102,u103,u104,u105,u106,u107,u108,u109,u110,u111,u112,u113,u114,u115,u116,u117,u118,u119,u120,u121,u122,u123,u124,u125,u126,u127,u128,u129,u130,u131,u132,u133,u134,u135,u136,u137,u138,u139,u140,u141,u142,u143,u144,u145,u146,u147,u148,u149,u150,u151,u152,u153,u154,u155,u156,u157,u158,u159,u160,u161,u162,u163,u164,u165,u166,u167,u168,u169,u170,u171],[]⟩ w:=by
 conv=>arg 2;whnf
 have HQ0:=hQ.out
 refine wp_region_noPanic ?_
 refine wp_region_held_drew (S:=(fun w'=>w'.cell? ⟨cb,0,none⟩ = some (.slice oa on oc) ∧ w'.cell? ⟨cb,1,none⟩ = some (.int .i64 nx) ∧ w'.cell? ⟨cb,2,none⟩ = some (.bool true) ∧ w'.cell? ⟨eb,1,none⟩ = some (.int .i64 nx) ∧ w'.cell? ⟨eb,2,none⟩ = some (.int .i64 ((on:Int) + 1)) ∧ w'.cell? ⟨eb,3,none⟩ = some (.string X) ∧ w'.cell? ⟨eb,4,none⟩ = some (.slice A m c) ∧ w'.cell? ⟨eb,5,none⟩ = some (.string T) ∧ SInv w')) (by kernel_rfl) (HC.out _ hS) (fun hHeld=>?_)
 refine tk 0 38 (.bool true) ?_ ?_
 try simp only [Act.put,pA,pZ,pS]
 refine tk 1 39 (.bool true) ?_ ?_
 try simp only [Act.put,pA,pZ,pS]
 refine tk 2 40 (.pointer (some ⟨eb,1,none⟩)) ?_ ?_
 try simp only [Act.put,pA,pZ,pS]
 refine tk 3 41 (.int .i64 nx) ?_ ?_
 try simp only [Act.put,pA,pZ,pS]
 refine tk 4 42 (.pointer (some ⟨cb,0,none⟩)) ?_ ?_
 try simp only [Act.put,pA,pZ,pS]
 refine tk 5 43 (.pointer (some ⟨cb,0,none⟩)) ?_ ?_
 try simp only [Act.put,pA,pZ,pS]
 refine tk 6 44 (.pointer (some ⟨cb,1,none⟩)) ?_ ?_
 try simp only [Act.put,pA,pZ,pS]
 refine tk 7 45 (.int .i64 nx) ?_ ?_
 try simp only [Act.put,pA,pZ,pS]
 refine tk 8 46 (.bool true) ?_ ?_
 try simp only [Act.put,pA,pZ,pS]
 refine tk 9 47 (.bool true) ?_ ?_
 try simp only [Act.put,pA,pZ,pS]
 refine tk 10 48 (.bool true) ?_ ?_
 try simp only [Act.put,pA,pZ,pS]
 refine tk 11 49 (.pointer (some ⟨eb,2,none⟩)) ?_ ?_
 try simp only [Act.put,pA,pZ,pS]
 refine tk 12 50 (.int .i64 ((on:Int) + 1)) ?_ ?_
 try simp only [Act.put,pA,pZ,pS]
 refine tk 13 51 (.pointer (some ⟨cb,0,none⟩)) ?_ ?_
 try simp only [Act.put,pA,pZ,pS]
 refine tk 14 52 (.pointer (some ⟨cb,0,none⟩)) ?_ ?_
 try simp only [Act.put,pA,pZ,pS]
 refine tk 15 53 (.pointer (some ⟨cb,0,none⟩)) ?_ ?_
 try simp only [Act.put,pA,pZ,pS]
 refine tk 16 54 (.slice oa on oc) ?_ ?_
 try simp only [Act.put,pA,pZ,pS]
 refine tk 17 55 (.int .i64 (on:Nat)) ?_ ?_
 try simp only [Act.put,pA,pZ,pS]
 refine tk 18 56 (.int .i64 ((on:Int) + 1)) ?_ ?_
 try simp only [Act.put,pA,pZ,pS]
 refine tk 19 57 (.bool true) ?_ ?_
 try simp only [Act.put,pA,pZ,pS]
 refine tk 20 58 (.bool true) ?_ ?_
 try simp only [Act.put,pA,pZ,pS]
 refine tk 21 59 (.bool true) ?_ ?_
 try simp only [Act.put,pA,pZ,pS]
 refine tk 22 60 (.pointer (some ⟨cb,0,none⟩)) ?_ ?_
 try simp only [Act.put,pA,pZ,pS]
 refine tk 23 61 (.pointer (some ⟨cb,0,none⟩)) ?_ ?_
 try simp only [Act.put,pA,pZ,pS]
 refine tk 24 62 (.pointer (some ⟨cb,0,none⟩)) ?_ ?_
 try simp only [Act.put,pA,pZ,pS]
 refine tk 25 63 (.slice oa on oc) ?_ ?_
 try simp only [Act.put,pA,pZ,pS]
 refine tk 26 64 (.int .i64 (on:Nat)) ?_ ?_
 try simp only [Act.put,pA,pZ,pS]
 refine tk 27 65 (.bool true) ?_ ?_
 try simp only [Act.put,pA,pZ,pS]
 refine tk 28 66 (.bool true) ?_ ?_
 try simp only [Act.put,pA,pZ,pS]
 refine tk 29 67 (.bool true) ?_ ?_
 try simp only [Act.put,pA,pZ,pS]
 refine tk 30 68 (.pointer (some ⟨cb,0,none⟩)) ?_ ?_
 try simp only [Act.put,pA,pZ,pS]
 refine tk 31 69 (.pointer (some ⟨cb,0,none⟩)) ?_ ?_
 try simp only [Act.put,pA,pZ,pS]
 refine tk 32 70 (.pointer (some ⟨cb,2,none⟩)) ?_ ?_
 try simp only [Act.put,pA,pZ,pS]
 refine tk 33 71 (.bool true) ?_ ?_
 try simp only [Act.put,pA,pZ,pS]
 refine tk 34 72 (.bool false) ?_ ?_
 try simp only [Act.put,pA,pZ,pS]
 refine tk 35 73 (.bool false) ?_ ?_
 try simp only [Act.put,pA,pZ,pS]
 refine tk 36 74 (.bool false) ?_ ?_
 try simp only [Act.put,pA,pZ,pS]
 refine wpAnyH_skips (fuel:=18) (by kernel_rfl) (fun _ _ _ _ h=>h) (by assumption) [37,38,39] [some 75,some 76,some 77] 3 _ _ rfl (by kernel_rfl) ?_
 simp only [listedAfter,putU,Act.put,pA,pZ,pS]
 refine tk 40 78 (.bool false) ?_ ?_
 try simp only [Act.put,pA,pZ,pS]
 refine tk 41 79 (.bool false) ?_ ?_
 try simp only [Act.put,pA,pZ,pS]
 refine wpAnyH_skips (fuel:=13) (by kernel_rfl) (fun _ _ _ _ h=>h) (by assumption) [42,43,44] [some 80,some 81,some 82] 3 _ _ rfl (by kernel_rfl) ?_
 simp only [listedAfter,putU,Act.put,pA,pZ,pS]
 refine tk 45 83 (.bool false) ?_ ?_
 try simp only [Act.put,pA,pZ,pS]
 refine tk 46 84 (.bool false) ?_ ?_
 try simp only [Act.put,pA,pZ,pS]
 refine wpAnyH_skips (fuel:=8) (by kernel_rfl) (fun _ _ _ _ h=>h) (by assumption) [47,48,49] [some 85,some 86,some 87] 3 _ _ rfl (by kernel_rfl) ?_
 simp only [listedAfter,putU,Act.put,pA,pZ,pS]
 refine tk 50 88 (.bool false) ?_ ?_
 try simp only [Act.put,pA,pZ,pS]
 refine tk 51 89 (.bool false) ?_ ?_
 try simp only [Act.put,pA,pZ,pS]
 refine wpAnyH_skips (fuel:=2) (by kernel_rfl) (fun _ _ _ _ h=>h) (by assumption) [52,53,54,55] [some 90,some 91,some 92,some 93] 4 _ _ rfl (by kernel_rfl) ?_
 simp only [listedAfter,putU,Act.put,pA,pZ,pS]
 refine tk 56 94 (.bool false) ?_ ?_
 try simp only [Act.put,pA,pZ,pS]
 refine tk 57 5 (.bool false) ?_ ?_
 try simp only [Act.put,pA,pZ,pS]
 refine wpAnyH_done (by kernel_rfl) ?_ _
 exact HQ0 _ _ _ _ _ _ _ _ _ _ _ _ _ _ _ _ _ _ _ _ _ _ _ _ _ _ _ _ _ _ _ _ _ _ _ _ _ _ _ _ _ _ _ _ _ _ _ _ _ _ _ _ _ _ _ _ _ _ hHeld.2.2.2.2.2.2.2.2
 all_goals (intro w hSw;(try dsimp only at hSw);(try obtain ⟨g1,g2,g3,g4,g5,g6,g7,g8,_⟩:=hSw);go_simp;first | done | with_reducible rfl | exact f3 | omega | rfl | simp [ew,f3])
set_option maxRecDepth 1000000 in
set_option maxHeartbeats 4000000 in
theorem take7_empty (SInv:World → Prop) (eb cb:Nat) (oa:Option Addr) (on oc:Nat) (nx:Int) (X T:ByteArray) (A:Option Addr) (m c:Nat) (ew:IntKind.i64.wrap ((on:Int) + 1) = (on:Int) + 1) (f3:0 < on) (f5:T.toList.isEmpty = true) (u1 u2 u4 u6 u7 u8 u9 u10 u11 u12 u13 u14 u15 u16 u17 u18 u19 u20 u21 u22 u23 u24 u25 u26 u27 u28 u29 u30 u31 u32 u33 u34 u35 u36 u37 u38 u39 u40 u41 u42 u43 u44 u45 u46 u47 u48 u49 u50 u51 u52 u53 u54 u55 u56 u57 u58 u59 u60 u61 u62 u63 u64 u65 u66 u67 u68 u69 u70 u71 u72 u73 u74 u75 u76 u77 u78 u79 u80 u81 u82 u83 u84 u85 u86 u87 u88 u89 u90 u91 u92 u93 u94 u95 u96 u97 u98 u99 u100 u101 u102 u103 u104 u105 u106 u107 u108 u109 u110 u111 u112 u113 u114 u115 u116 u117 u118 u119 u120 u121 u122 u123 u124 u125 u126 u127 u128 u129 u130 u131 u132 u133 u134 u135 u136 u137 u138 u139 u140 u141 u142 u143 u144 u145 u146 u147 u148 u149 u150 u151 u152 u153 u154 u155 u156 u157 u158 u159 u160 u161 u162 u163 u164 u165 u166 u167 u168 u169 u170 u171:Value) (w:World)
  (HC:Hid (∀ w',SInv w' → w'.cell? ⟨cb,0,none⟩ = some (.slice oa on oc) ∧ w'.cell? ⟨cb,1,none⟩ = some (.int .i64 nx) ∧ w'.cell? ⟨cb,2,none⟩ = some (.bool false) ∧ w'.cell? ⟨eb,1,none⟩ = some (.int .i64 nx) ∧ w'.cell? ⟨eb,2,none⟩ = some (.int .i64 ((on:Int) + 1)) ∧ w'.cell? ⟨eb,3,none⟩ = some (.string X) ∧ w'.cell? ⟨eb,4,none⟩ = some (.slice A m c) ∧ w'.cell? ⟨eb,5,none⟩ = some (.string T) ∧ SInv w'))
  (hS:SInv w.drew) (Q:Exit → Act → World → Prop) (hQ:Hid (∀ y38 y39 y40 y41 y42 y43 y44 y45 y46 y47 y48 y49 y50 y51 y52 y53 y54 y55 y56 y57 y58 y59 y60 y61 y62 y63 y64 y65 y66 y67 y68 y69 y70 y71 y72 y73 y74 y75 y76 y77 y78 y79 y80 y81 y82 y83 y84 y85 y86 y87 y88 y89 y90 y91 y92 y93 y94 w',SInv w' → Q .normal ⟨#[.pointer (some ⟨cb,0,none⟩),u1,u2,.pointer (some ⟨eb,0,none⟩),u4,.bool false,u6,u7,u8,u9,u10,u11,u12,u13,u14,u15,u16,u17,u18,u19,u20,u21,u22,u23,u24,u25,u26,u27,u28,u29,u30,u31,u32,u33,u34,u35,u36,u37,y38,y39,y40,y41,y42,y43,y44,y45,y46,y47,y48,y49,y50,y51,y52,y53,y54,y55,y56,y57,y58,y59,y60,y61,y62,y63,y64,y65,y66,y67,y68,y69,y70,y71,y72,y73,y74,y75,y76,y77,y78,y79,y80,y81,y82,y83,y84,y85,y86,y87,y88,y89,y90,y91,y92,y93,y94,u95,u96,u97,u98,u99,u100,u101,u102,u103,u104,u105,u106,u107,u108,u109,u110,u111,u112,u113,u114,u115,u116,u117,u118,u119,u120,u121,u122,u123,u124,u125,u126,u127,u128,u129,u130,u131,u132,u133,u134,u135,u136,u137,u138,u139,u140,u141,u142,u143,u144,u145,u146,u147,u148,u149,u150,u151,u152,u153,u154,u155,u156,u157,u158,u159,u160,u161,u162,u163,u164,u165,u166,u167,u168,u169,u170,u171],[]⟩ w')) :
  Code.wp Tryz.prog take7 Q ⟨#[.pointer (some ⟨cb,0,none⟩),u1,u2,.pointer (some ⟨eb,0,none⟩),u4,.bool true,u6,u7,u8,u9,u10,u11,u12,u13,u14,u15,u16,u17,u18,u19,u20,u21,u22,u23,u24,u25,u26,u27,u28,u29,u30,u31,u32,u33,u34,u35,u36,u37,u38,u39,u40,u41,u42,u43,u44,u45,u46,u47,u48,u49,u50,u51,u52,u53,u54,u55,u56,u57,u58,u59,u60,u61,u62,u63,u64,u65,u66,u67,u68,u69,u70,u71,u72,u73,u74,u75,u76,u77,u78,u79,u80,u81,u82,u83,u84,u85,u86,u87,u88,u89,u90,u91,u92,u93,u94,u95,u96,u97,u98,u99,u100,u101,u102,u103,u104,u105,u106,u107,u108,u109,u110,u111,u112,u113,u114,u115,u116,u117,u118,u119,u120,u121,u122,u123,u124,u125,u126,u127,u128,u129,u130,u131,u132,u133,u134,u135,u136,u137,u138,u139,u140,u141,u142,u143,u144,u145,u146,u147,u148,u149,u150,u151,u152,u153,u154,u155,u156,u157,u158,u159,u160,u161,u162,u163,u164,u165,u166,u167,u168,u169,u170,u171],[]⟩ w:=by
 conv=>arg 2;whnf
 have HQ0:=hQ.out
 refine wp_region_noPanic ?_
 refine wp_region_held_drew (S:=(fun w'=>w'.cell? ⟨cb,0,none⟩ = some (.slice oa on oc) ∧ w'.cell? ⟨cb,1,none⟩ = some (.int .i64 nx) ∧ w'.cell? ⟨cb,2,none⟩ = some (.bool false) ∧ w'.cell? ⟨eb,1,none⟩ = some (.int .i64 nx) ∧ w'.cell? ⟨eb,2,none⟩ = some (.int .i64 ((on:Int) + 1)) ∧ w'.cell? ⟨eb,3,none⟩ = some (.string X) ∧ w'.cell? ⟨eb,4,none⟩ = some (.slice A m c) ∧ w'.cell? ⟨eb,5,none⟩ = some (.string T) ∧ SInv w')) (by kernel_rfl) (HC.out _ hS) (fun hHeld=>?_)
 refine tk 0 38 (.bool true) ?_ ?_
 try simp only [Act.put,pA,pZ,pS]
 refine tk 1 39 (.bool true) ?_ ?_
 try simp only [Act.put,pA,pZ,pS]
 refine tk 2 40 (.pointer (some ⟨eb,1,none⟩)) ?_ ?_
 try simp only [Act.put,pA,pZ,pS]
 refine tk 3 41 (.int .i64 nx) ?_ ?_
 try simp only [Act.put,pA,pZ,pS]
 refine tk 4 42 (.pointer (some ⟨cb,0,none⟩)) ?_ ?_
 try simp only [Act.put,pA,pZ,pS]
 refine tk 5 43 (.pointer (some ⟨cb,0,none⟩)) ?_ ?_
 try simp only [Act.put,pA,pZ,pS]
 refine tk 6 44 (.pointer (some ⟨cb,1,none⟩)) ?_ ?_
 try simp only [Act.put,pA,pZ,pS]
 refine tk 7 45 (.int .i64 nx) ?_ ?_
 try simp only [Act.put,pA,pZ,pS]
 refine tk 8 46 (.bool true) ?_ ?_
 try simp only [Act.put,pA,pZ,pS]
 refine tk 9 47 (.bool true) ?_ ?_
 try simp only [Act.put,pA,pZ,pS]
 refine tk 10 48 (.bool true) ?_ ?_
 try simp only [Act.put,pA,pZ,pS]
 refine tk 11 49 (.pointer (some ⟨eb,2,none⟩)) ?_ ?_
 try simp only [Act.put,pA,pZ,pS]
 refine tk 12 50 (.int .i64 ((on:Int) + 1)) ?_ ?_
 try simp only [Act.put,pA,pZ,pS]
 refine tk 13 51 (.pointer (some ⟨cb,0,none⟩)) ?_ ?_
 try simp only [Act.put,pA,pZ,pS]
 refine tk 14 52 (.pointer (some ⟨cb,0,none⟩)) ?_ ?_
 try simp only [Act.put,pA,pZ,pS]
 refine tk 15 53 (.pointer (some ⟨cb,0,none⟩)) ?_ ?_
 try simp only [Act.put,pA,pZ,pS]
 refine tk 16 54 (.slice oa on oc) ?_ ?_
 try simp only [Act.put,pA,pZ,pS]
 refine tk 17 55 (.int .i64 (on:Nat)) ?_ ?_
 try simp only [Act.put,pA,pZ,pS]
 refine tk 18 56 (.int .i64 ((on:Int) + 1)) ?_ ?_
 try simp only [Act.put,pA,pZ,pS]
 refine tk 19 57 (.bool true) ?_ ?_
 try simp only [Act.put,pA,pZ,pS]
 refine tk 20 58 (.bool true) ?_ ?_
 try simp only [Act.put,pA,pZ,pS]
 refine tk 21 59 (.bool true) ?_ ?_
 try simp only [Act.put,pA,pZ,pS]
 refine tk 22 60 (.pointer (some ⟨cb,0,none⟩)) ?_ ?_
 try simp only [Act.put,pA,pZ,pS]
 refine tk 23 61 (.pointer (some ⟨cb,0,none⟩)) ?_ ?_
 try simp only [Act.put,pA,pZ,pS]
 refine tk 24 62 (.pointer (some ⟨cb,0,none⟩)) ?_ ?_
 try simp only [Act.put,pA,pZ,pS]
 refine tk 25 63 (.slice oa on oc) ?_ ?_
 try simp only [Act.put,pA,pZ,pS]
 refine tk 26 64 (.int .i64 (on:Nat)) ?_ ?_
 try simp only [Act.put,pA,pZ,pS]
 refine tk 27 65 (.bool true) ?_ ?_
 try simp only [Act.put,pA,pZ,pS]
 refine tk 28 66 (.bool true) ?_ ?_
 try simp only [Act.put,pA,pZ,pS]
 refine tk 29 67 (.bool true) ?_ ?_
 try simp only [Act.put,pA,pZ,pS]
 refine tk 30 68 (.pointer (some ⟨cb,0,none⟩)) ?_ ?_
 try simp only [Act.put,pA,pZ,pS]
 refine tk 31 69 (.pointer (some ⟨cb,0,none⟩)) ?_ ?_
 try simp only [Act.put,pA,pZ,pS]
 refine tk 32 70 (.pointer (some ⟨cb,2,none⟩)) ?_ ?_
 try simp only [Act.put,pA,pZ,pS]
 refine tk 33 71 (.bool false) ?_ ?_
 try simp only [Act.put,pA,pZ,pS]
 refine tk 34 72 (.bool true) ?_ ?_
 try simp only [Act.put,pA,pZ,pS]
 refine tk 35 73 (.bool true) ?_ ?_
 try simp only [Act.put,pA,pZ,pS]
 refine tk 36 74 (.bool true) ?_ ?_
 try simp only [Act.put,pA,pZ,pS]
 refine tk 37 75 (.pointer (some ⟨eb,5,none⟩)) ?_ ?_
 try simp only [Act.put,pA,pZ,pS]
 refine tk 38 76 (.string T) ?_ ?_
 try simp only [Act.put,pA,pZ,pS]
 refine tk 39 77 (.bool false) ?_ ?_
 try simp only [Act.put,pA,pZ,pS]
 refine tk 40 78 (.bool false) ?_ ?_
 try simp only [Act.put,pA,pZ,pS]
 refine tk 41 79 (.bool false) ?_ ?_
 try simp only [Act.put,pA,pZ,pS]
 refine wpAnyH_skips (fuel:=13) (by kernel_rfl) (fun _ _ _ _ h=>h) (by assumption) [42,43,44] [some 80,some 81,some 82] 3 _ _ rfl (by kernel_rfl) ?_
 simp only [listedAfter,putU,Act.put,pA,pZ,pS]
 refine tk 45 83 (.bool false) ?_ ?_
 try simp only [Act.put,pA,pZ,pS]
 refine tk 46 84 (.bool false) ?_ ?_
 try simp only [Act.put,pA,pZ,pS]
 refine wpAnyH_skips (fuel:=8) (by kernel_rfl) (fun _ _ _ _ h=>h) (by assumption) [47,48,49] [some 85,some 86,some 87] 3 _ _ rfl (by kernel_rfl) ?_
 simp only [listedAfter,putU,Act.put,pA,pZ,pS]
 refine tk 50 88 (.bool false) ?_ ?_
 try simp only [Act.put,pA,pZ,pS]
 refine tk 51 89 (.bool false) ?_ ?_
 try simp only [Act.put,pA,pZ,pS]
 refine wpAnyH_skips (fuel:=2) (by kernel_rfl) (fun _ _ _ _ h=>h) (by assumption) [52,53,54,55] [some 90,some 91,some 92,some 93] 4 _ _ rfl (by kernel_rfl) ?_
 simp only [listedAfter,putU,Act.put,pA,pZ,pS]
 refine tk 56 94 (.bool false) ?_ ?_
 try simp only [Act.put,pA,pZ,pS]
 refine tk 57 5 (.bool false) ?_ ?_
 try simp only [Act.put,pA,pZ,pS]
 refine wpAnyH_done (by kernel_rfl) ?_ _
 exact HQ0 _ _ _ _ _ _ _ _ _ _ _ _ _ _ _ _ _ _ _ _ _ _ _ _ _ _ _ _ _ _ _ _ _ _ _ _ _ _ _ _ _ _ _ _ _ _ _ _ _ _ _ _ _ _ _ _ _ _ hHeld.2.2.2.2.2.2.2.2
 all_goals (intro w hSw;(try dsimp only at hSw);(try obtain ⟨g1,g2,g3,g4,g5,g6,g7,g8,_⟩:=hSw);go_simp;first | done | with_reducible rfl | exact f3 | omega | rfl | simp [ew,f3,f5])
end Go.Proofs.YtgjokdngbocehaaGreatDoor
