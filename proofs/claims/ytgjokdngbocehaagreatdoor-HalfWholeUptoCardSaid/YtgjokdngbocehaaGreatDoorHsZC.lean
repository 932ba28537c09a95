/-
  (*tree.Check).Take of a Text: its seventh region where a test fails: the last three.
-/
import Derived.Test.YtgjokdngbocehaaGreatDoorHsC
import Derived.Test.YtgjokdngbocehaaGreatDoorHsD
import Derived.Test.YtgjokdngbocehaaGreatDoorHsE
import Derived.Test.YtgjokdngbocehaaGreatDoorHsZB
namespace Go.Proofs.YtgjokdngbocehaaGreatDoor
open Go.RowKit
set_option maxRecDepth 1000000 in
set_option maxHeartbeats 4000000 in
theorem take7_texts (SInv:World → Prop) (eb cb:Nat) (oa:Option Addr) (on oc:Nat) (nx:Int) (X T:ByteArray) (A:Option Addr) (m c:Nat) (ew:IntKind.i64.wrap ((on:Int) + 1) = (on:Int) + 1) (f3:0 < on) (f5:T.toList.isEmpty = false) (u1 u2 u4 u6 u7 u8 u9 u10 u11 u12 u13 u14 u15 u16 u17 u18 u19 u20 u21 u22 u23 u24 u25 u26 u27 u28 u29 u30 u31 u32 u33 u34 u35 u36 u37 u38 u39 u40 u41 u42 u43 u44 u45 u46 u47 u48 u49 u50 u51 u52 u53 u54 u55 u56 u57 u58 u59 u60 u61 u62 u63 u64 u65 u66 u67 u68 u69 u70 u71 u72 u73 u74 u75 u76 u77 u78 u79 u80 u81 u82 u83 u84 u85 u86 u87 u88 u89 u90 u91 u92 u93 u94 u95 u96 u97 u98 u99 u100 u101 u102 u103 u104 u105 u106 u107 u108 u109 u110 u111 u112 u113 u114 u115 u116 u117 u118 u119 u120 u121 u122 u123 u124 u125 u126 u127 u128 u129 u130 u131 u132 u133 u134 u135 u136 u137 u138 u139 u140 u141 u142 u143 u144 u145 u146 u147 u148 u149 u150 u151 u152 u153 u154 u155 u156 u157 u158 u159 u160 u161 u162 u163 u164 u165 u166 u167 u168 u169 u170 u171:Value) (w:World)
  (HC:Hid (∀ w',SInv w' → w'.cell? ⟨cb,0,none⟩ = some (.slice oa on oc) ∧ w'.cell? ⟨cb,1,none⟩ = some (.int .i64 nx) ∧ w'.cell? ⟨cb,2,none⟩ = some (.bool false) ∧ w'.cell? ⟨eb,1,none⟩ = some (.int .i64 nx) ∧ w'.cell? ⟨eb,2,none⟩ = some (.int .i64 ((on:Int) + 1)) ∧ w'.cell? ⟨eb,3,none⟩ = some (.string X) ∧ w'.cell? ⟨eb,4,none⟩ = some (.slice A m c) ∧ w'.cell? ⟨eb,5,none⟩ = some (.string T) ∧ SInv w'))
  (HTK:Hid (∀ w',SInv w' → Calls Tryz.prog 78 #[.string T] w' fun e w''=>e = .returned (.bool false) ∧ SInv w''))
  (hS:SInv w.drew) (Q:Exit → Act → World → Prop) (hQ:Hid (∀ y38 y39 y40 y41 y42 y43 y44 y45 y46 y47 y48 y49 y50 y51 y52 y53 y54 y55 y56 y57 y58 y59 y60 y61 y62 y63 y64 y65 y66 y67 y68 y69 y70 y71 y72 y73 y74 y75 y76 y77 y78 y79 y80 y81 y82 y83 y84 y85 y86 y87 y88 y89 y90 y91 y92 y93 y94 w',SInv w' → Q .normal ⟨#[.pointer (some ⟨cb,0,none⟩),u1,u2,.pointer (some ⟨eb,0,none⟩),u4,.bool false,u6,u7,u8,u9,u10,u11,u12,u13,u14,u15,u16,u17,u18,u19,u20,u21,u22,u23,u24,u25,u26,u27,u28,u29,u30,u31,u32,u33,u34,u35,u36,u37,y38,y39,y40,y41,y42,y43,y44,y45,y46,y47,y48,y49,y50,y51,y52,y53,y54,y55,y56,y57,y58,y59,y60,y61,y62,y63,y64,y65,y66,y67,y68,y69,y70,y71,y72,y73,y74,y75,y76,y77,y78,y79,y80,y81,y82,y83,y84,y85,y86,y87,y88,y89,y90,y91,y92,y93,y94,u95,u96,u97,u98,u99,u100,u101,u102,u103,u104,u105,u106,u107,u108,u109,u110,u111,u112,u113,u114,u115,u116,u117,u118,u119,u120,u121,u122,u123,u124,u125,u126,u127,u128,u129,u130,u131,u132,u133,u134,u135,u136,u137,u138,u139,u140,u141,u142,u143,u144,u145,u146,u147,u148,u149,u150,u151,u152,u153,u154,u155,u156,u157,u158,u159,u160,u161,u162,u163,u164,u165,u166,u167,u168,u169,u170,u171],[]⟩ w')) :
  Code.wp Tryz.prog take7 Q ⟨#[.pointer (some ⟨cb,0,none⟩),u1,u2,.pointer (some ⟨eb,0,none⟩),u4,.bool true,u6,u7,u8,u9,u10,u11,u12,u13,u14,u15,u16,u17,u18,u19,u20,u21,u22,u23,u24,u25,u26,u27,u28,u29,u30,u31,u32,u33,u34,u35,u36,u37,u38,u39,u40,u41,u42,u43,u44,u45,u46,u47,u48,u49,u50,u51,u52,u53,u54,u55,u56,u57,u58,u59,u60,u61,u62,u63,u64,u65,u66,u67,u68,u69,u70,u71,u72,u73,u74,u75,u76,u77,u78,u79,u80,u81,u82,u83,u84,u85,u86,u87,u88,u89,u90,u91,u92,u93,u94,u95,u96,u97,u98,u99,u100,u101,u102,u103,u104,u105,u106,u107,u108,u109,u110,u111,u112,u113,u114,u115,u116,u117,u118,u119,u120,u121,u122,u123,u124,u125,u126,u127,u128,u129,u130,u131,u132,u133,u134,u135,u136,u137,u138,u139,u140,u141,u142,u143,u144,u145,u146,u147,u148,u149,u150,u151,u152,u153,u154,u155,u156,u157,u158,u159,u160,u161,u162,u163,u164,u165,u166,u167,u168,u169,u170,u171],[]⟩ w:=by
 conv=>arg 2;whnf
 have HQ0:=hQ.out
 refine wp_region_noPanic ?_
 refine wp_region_held_drew (S:=(fun w'=>w'.cell? ⟨cb,0,none⟩ = some (.slice oa on oc) ∧ w'.cell? ⟨cb,1,none⟩ = some (.int .i64 nx) ∧ w'.cell? ⟨cb,2,none⟩ = some (.bool false) ∧ w'.cell? ⟨eb,1,none⟩ = some (.int .i64 nx) ∧ w'.cell? ⟨eb,2,none⟩ = some (.int .i64 ((on:Int) + 1)) ∧ w'.cell? ⟨eb,3,none⟩ = some (.string X) ∧ w'.cell? ⟨eb,4,none⟩ = some (.slice A m c) ∧ w'.cell? ⟨eb,5,none⟩ = some (.string T) ∧ SInv w')) (by kernel_rfl) (HC.out _ hS) (fun hHeld=>?_)
 refine tk 0 38 (.bool true) ?_ ?_
 try simp only [Act.put,pA,pZ,pS]
 refine tk 1 39 (.bool true) ?_ ?_
 try simp only [Act.put,pA,pZ,pS]
 refine tk 2 40 (.pointer (some ⟨eb,1,none⟩)) ?_ ?_
 try simp only [Act.put,pA,pZ,pS]
 refine tk 3 41 (.int .i64 nx) ?_ ?_
 try simp only [Act.put,pA,pZ,pS]
 refine tk 4 42 (.pointer (some ⟨cb,0,none⟩)) ?_ ?_
 try simp only [Act.put,pA,pZ,pS]
 refine tk 5 43 (.pointer (some ⟨cb,0,none⟩)) ?_ ?_
 try simp only [Act.put,pA,pZ,pS]
 refine tk 6 44 (.pointer (some ⟨cb,1,none⟩)) ?_ ?_
 try simp only [Act.put,pA,pZ,pS]
 refine tk 7 45 (.int .i64 nx) ?_ ?_
 try simp only [Act.put,pA,pZ,pS]
 refine tk 8 46 (.bool true) ?_ ?_
 try simp only [Act.put,pA,pZ,pS]
 refine tk 9 47 (.bool true) ?_ ?_
 try simp only [Act.put,pA,pZ,pS]
 refine tk 10 48 (.bool true) ?_ ?_
 try simp only [Act.put,pA,pZ,pS]
 refine tk 11 49 (.pointer (some ⟨eb,2,none⟩)) ?_ ?_
 try simp only [Act.put,pA,pZ,pS]
 refine tk 12 50 (.int .i64 ((on:Int) + 1)) ?_ ?_
 try simp only [Act.put,pA,pZ,pS]
 refine tk 13 51 (.pointer (some ⟨cb,0,none⟩)) ?_ ?_
 try simp only [Act.put,pA,pZ,pS]
 refine tk 14 52 (.pointer (some ⟨cb,0,none⟩)) ?_ ?_
 try simp only [Act.put,pA,pZ,pS]
 refine tk 15 53 (.pointer (some ⟨cb,0,none⟩)) ?_ ?_
 try simp only [Act.put,pA,pZ,pS]
 refine tk 16 54 (.slice oa on oc) ?_ ?_
 try simp only [Act.put,pA,pZ,pS]
 refine tk 17 55 (.int .i64 (on:Nat)) ?_ ?_
 try simp only [Act.put,pA,pZ,pS]
 refine tk 18 56 (.int .i64 ((on:Int) + 1)) ?_ ?_
 try simp only [Act.put,pA,pZ,pS]
 refine tk 19 57 (.bool true) ?_ ?_
 try simp only [Act.put,pA,pZ,pS]
 refine tk 20 58 (.bool true) ?_ ?_
 try simp only [Act.put,pA,pZ,pS]
 refine tk 21 59 (.bool true) ?_ ?_
 try simp only [Act.put,pA,pZ,pS]
 refine tk 22 60 (.pointer (some ⟨cb,0,none⟩)) ?_ ?_
 try simp only [Act.put,pA,pZ,pS]
 refine tk 23 61 (.pointer (some ⟨cb,0,none⟩)) ?_ ?_
 try simp only [Act.put,pA,pZ,pS]
 refine tk 24 62 (.pointer (some ⟨cb,0,none⟩)) ?_ ?_
 try simp only [Act.put,pA,pZ,pS]
 refine tk 25 63 (.slice oa on oc) ?_ ?_
 try simp only [Act.put,pA,pZ,pS]
 refine tk 26 64 (.int .i64 (on:Nat)) ?_ ?_
 try simp only [Act.put,pA,pZ,pS]
 refine tk 27 65 (.bool true) ?_ ?_
 try simp only [Act.put,pA,pZ,pS]
 refine tk 28 66 (.bool true) ?_ ?_
 try simp only [Act.put,pA,pZ,pS]
 refine tk 29 67 (.bool true) ?_ ?_
 try simp only [Act.put,pA,pZ,pS]
 refine tk 30 68 (.pointer (some ⟨cb,0,none⟩)) ?_ ?_
 try simp only [Act.put,pA,pZ,pS]
 refine tk 31 69 (.pointer (some ⟨cb,0,none⟩)) ?_ ?_
 try simp only [Act.put,pA,pZ,pS]
 refine tk 32 70 (.pointer (some ⟨cb,2,none⟩)) ?_ ?_
 try simp only [Act.put,pA,pZ,pS]
 refine tk 33 71 (.bool false) ?_ ?_
 try simp only [Act.put,pA,pZ,pS]
 refine tk 34 72 (.bool true) ?_ ?_
 try simp only [Act.put,pA,pZ,pS]
 refine tk 35 73 (.bool true) ?_ ?_
 try simp only [Act.put,pA,pZ,pS]
 refine tk 36 74 (.bool true) ?_ ?_
 try simp only [Act.put,pA,pZ,pS]
 refine tk 37 75 (.pointer (some ⟨eb,5,none⟩)) ?_ ?_
 try simp only [Act.put,pA,pZ,pS]
 refine tk 38 76 (.string T) ?_ ?_
 try simp only [Act.put,pA,pZ,pS]
 refine tk 39 77 (.bool true) ?_ ?_
 try simp only [Act.put,pA,pZ,pS]
 refine tk 40 78 (.bool true) ?_ ?_
 try simp only [Act.put,pA,pZ,pS]
 refine tk 41 79 (.bool true) ?_ ?_
 try simp only [Act.put,pA,pZ,pS]
 refine tk 42 80 (.pointer (some ⟨eb,5,none⟩)) ?_ ?_
 try simp only [Act.put,pA,pZ,pS]
 refine tk 43 81 (.string T) ?_ ?_
 try simp only [Act.put,pA,pZ,pS]
 refine wpAnyH_ready (rs:=[44]) (by kernel_rfl) (by simp) ?_
 refine AllReadyH.cons rfl (fun K hK=>?_) AllReadyH.nil
 go_simp
 (go_at_call 78;(with_reducible refine (HTK.out _ hHeld.2.2.2.2.2.2.2.2).mono ?_);rintro e w3 ⟨rfl,hs3⟩)
 refine hK.out _ _ (HC.out _ hs3) (fun hHeld2=>?_)
 clear hK K hHeld
 try simp only [Act.put,pA,pZ,pS]
 refine tk 45 83 (.bool false) ?_ ?_
 try simp only [Act.put,pA,pZ,pS]
 refine tk 46 84 (.bool false) ?_ ?_
 try simp only [Act.put,pA,pZ,pS]
 refine wpAnyH_skips (fuel:=8) (by kernel_rfl) (fun _ _ _ _ h=>h) (by assumption) [47,48,49] [some 85,some 86,some 87] 3 _ _ rfl (by kernel_rfl) ?_
 simp only [listedAfter,putU,Act.put,pA,pZ,pS]
 refine tk 50 88 (.bool false) ?_ ?_
 try simp only [Act.put,pA,pZ,pS]
 refine tk 51 89 (.bool false) ?_ ?_
 try simp only [Act.put,pA,pZ,pS]
 refine wpAnyH_skips (fuel:=2) (by kernel_rfl) (fun _ _ _ _ h=>h) (by assumption) [52,53,54,55] [some 90,some 91,some 92,some 93] 4 _ _ rfl (by kernel_rfl) ?_
 simp only [listedAfter,putU,Act.put,pA,pZ,pS]
 refine tk 56 94 (.bool false) ?_ ?_
 try simp only [Act.put,pA,pZ,pS]
 refine tk 57 5 (.bool false) ?_ ?_
 try simp only [Act.put,pA,pZ,pS]
 refine wpAnyH_done (by kernel_rfl) ?_ _
 exact HQ0 _ _ _ _ _ _ _ _ _ _ _ _ _ _ _ _ _ _ _ _ _ _ _ _ _ _ _ _ _ _ _ _ _ _ _ _ _ _ _ _ _ _ _ _ _ _ _ _ _ _ _ _ _ _ _ _ _ _ hs3
 all_goals (intro w hSw;(try dsimp only at hSw);(try obtain ⟨g1,g2,g3,g4,g5,g6,g7,g8,_⟩:=hSw);go_simp;first | done | with_reducible rfl | exact f3 | omega | rfl | simp [ew,f3,f5])
set_option maxRecDepth 1000000 in
set_option maxHeartbeats 4000000 in
theorem take7_name (SInv:World → Prop) (eb cb:Nat) (oa:Option Addr) (on oc:Nat) (nx:Int) (X T:ByteArray) (A:Option Addr) (m c:Nat) (ew:IntKind.i64.wrap ((on:Int) + 1) = (on:Int) + 1) (f3:0 < on) (f5:T.toList.isEmpty = false) (f7:X.toList.isEmpty = false) (u1 u2 u4 u6 u7 u8 u9 u10 u11 u12 u13 u14 u15 u16 u17 u18 u19 u20 u21 u22 u23 u24 u25 u26 u27 u28 u29 u30 u31 u32 u33 u34 u35 u36 u37 u38 u39 u40 u41 u42 u43 u44 u45 u46 u47 u48 u49 u50 u51 u52 u53 u54 u55 u56 u57 u58 u59 u60 u61 u62 u63 u64 u65 u66 u67 u68 u69 u70 u71 u72 u73 u74 u75 u76 u77 u78 u79 u80 u81 u82 u83 u84 u85 u86 u87 u88 u89 u90 u91 u92 u93 u94 u95 u96 u97 u98 u99 u100 u101 u102 u103 u104 u105 u106 u107 u108 u109 u110 u111 u112 u113 u114 u115 u116 u117 u118 u119 u120 u121 u122 u123 u124 u125 u126 u127 u128 u129 u130 u131 u132 u133 u134 u135 u136 u137 u138 u139 u140 u141 u142 u143 u144 u145 u146 u147 u148 u149 u150 u151 u152 u153 u154 u155 u156 u157 u158 u159 u160 u161 u162 u163 u164 u165 u166 u167 u168 u169 u170 u171:Value) (w:World)
  (HC:Hid (∀ w',SInv w' → w'.cell? ⟨cb,0,none⟩ = some (.slice oa on oc) ∧ w'.cell? ⟨cb,1,none⟩ = some (.int .i64 nx) ∧ w'.cell? ⟨cb,2,none⟩ = some (.bool false) ∧ w'.cell? ⟨eb,1,none⟩ = some (.int .i64 nx) ∧ w'.cell? ⟨eb,2,none⟩ = some (.int .i64 ((on:Int) + 1)) ∧ w'.cell? ⟨eb,3,none⟩ = some (.string X) ∧ w'.cell? ⟨eb,4,none⟩ = some (.slice A m c) ∧ w'.cell? ⟨eb,5,none⟩ = some (.string T) ∧ SInv w'))
  (HTK:Hid (∀ w',SInv w' → Calls Tryz.prog 78 #[.string T] w' fun e w''=>e = .returned (.bool true) ∧ SInv w''))
  (hS:SInv w.drew) (Q:Exit → Act → World → Prop) (hQ:Hid (∀ y38 y39 y40 y41 y42 y43 y44 y45 y46 y47 y48 y49 y50 y51 y52 y53 y54 y55 y56 y57 y58 y59 y60 y61 y62 y63 y64 y65 y66 y67 y68 y69 y70 y71 y72 y73 y74 y75 y76 y77 y78 y79 y80 y81 y82 y83 y84 y85 y86 y87 y88 y89 y90 y91 y92 y93 y94 w',SInv w' → Q .normal ⟨#[.pointer (some ⟨cb,0,none⟩),u1,u2,.pointer (some ⟨eb,0,none⟩),u4,.bool false,u6,u7,u8,u9,u10,u11,u12,u13,u14,u15,u16,u17,u18,u19,u20,u21,u22,u23,u24,u25,u26,u27,u28,u29,u30,u31,u32,u33,u34,u35,u36,u37,y38,y39,y40,y41,y42,y43,y44,y45,y46,y47,y48,y49,y50,y51,y52,y53,y54,y55,y56,y57,y58,y59,y60,y61,y62,y63,y64,y65,y66,y67,y68,y69,y70,y71,y72,y73,y74,y75,y76,y77,y78,y79,y80,y81,y82,y83,y84,y85,y86,y87,y88,y89,y90,y91,y92,y93,y94,u95,u96,u97,u98,u99,u100,u101,u102,u103,u104,u105,u106,u107,u108,u109,u110,u111,u112,u113,u114,u115,u116,u117,u118,u119,u120,u121,u122,u123,u124,u125,u126,u127,u128,u129,u130,u131,u132,u133,u134,u135,u136,u137,u138,u139,u140,u141,u142,u143,u144,u145,u146,u147,u148,u149,u150,u151,u152,u153,u154,u155,u156,u157,u158,u159,u160,u161,u162,u163,u164,u165,u166,u167,u168,u169,u170,u171],[]⟩ w')) :
  Code.wp Tryz.prog take7 Q ⟨#[.pointer (some ⟨cb,0,none⟩),u1,u2,.pointer (some ⟨eb,0,none⟩),u4,.bool true,u6,u7,u8,u9,u10,u11,u12,u13,u14,u15,u16,u17,u18,u19,u20,u21,u22,u23,u24,u25,u26,u27,u28,u29,u30,u31,u32,u33,u34,u35,u36,u37,u38,u39,u40,u41,u42,u43,u44,u45,u46,u47,u48,u49,u50,u51,u52,u53,u54,u55,u56,u57,u58,u59,u60,u61,u62,u63,u64,u65,u66,u67,u68,u69,u70,u71,u72,u73,u74,u75,u76,u77,u78,u79,u80,u81,u82,u83,u84,u85,u86,u87,u88,u89,u90,u91,u92,u93,u94,u95,u96,u97,u98,u99,u100,u101,u102,u103,u104,u105,u106,u107,u108,u109,u110,u111,u112,u113,u114,u115,u116,u117,u118,u119,u120,u121,u122,u123,u124,u125,u126,u127,u128,u129,u130,u131,u132,u133,u134,u135,u136,u137,u138,u139,u140,u141,u142,u143,u144,u145,u146,u147,u148,u149,u150,u151,u152,u153,u154,u155,u156,u157,u158,u159,u160,u161,u162,u163,u164,u165,u166,u167,u168,u169,u170,u171],[]⟩ w:=by
 conv=>arg 2;whnf
 have HQ0:=hQ.out
 refine wp_region_noPanic ?_
 refine wp_region_held_drew (S:=(fun w'=>w'.cell? ⟨cb,0,none⟩ = some (.slice oa on oc) ∧ w'.cell? ⟨cb,1,none⟩ = some (.int .i64 nx) ∧ w'.cell? ⟨cb,2,none⟩ = some (.bool false) ∧ w'.cell? ⟨eb,1,none⟩ = some (.int .i64 nx) ∧ w'.cell? ⟨eb,2,none⟩ = some (.int .i64 ((on:Int) + 1)) ∧ w'.cell? ⟨eb,3,none⟩ = some (.string X) ∧ w'.cell? ⟨eb,4,none⟩ = some (.slice A m c) ∧ w'.cell? ⟨eb,5,none⟩ = some (.string T) ∧ SInv w')) (by kernel_rfl) (HC.out _ hS) (fun hHeld=>?_)
 refine tk 0 38 (.bool true) ?_ ?_
 try simp only [Act.put,pA,pZ,pS]
 refine tk 1 39 (.bool true) ?_ ?_
 try simp only [Act.put,pA,pZ,pS]
 refine tk 2 40 (.pointer (some ⟨eb,1,none⟩)) ?_ ?_
 try simp only [Act.put,pA,pZ,pS]
 refine tk 3 41 (.int .i64 nx) ?_ ?_
 try simp only [Act.put,pA,pZ,pS]
 refine tk 4 42 (.pointer (some ⟨cb,0,none⟩)) ?_ ?_
 try simp only [Act.put,pA,pZ,pS]
 refine tk 5 43 (.pointer (some ⟨cb,0,none⟩)) ?_ ?_
 try simp only [Act.put,pA,pZ,pS]
 refine tk 6 44 (.pointer (some ⟨cb,1,none⟩)) ?_ ?_
 try simp only [Act.put,pA,pZ,pS]
 refine tk 7 45 (.int .i64 nx) ?_ ?_
 try simp only [Act.put,pA,pZ,pS]
 refine tk 8 46 (.bool true) ?_ ?_
 try simp only [Act.put,pA,pZ,pS]
 refine tk 9 47 (.bool true) ?_ ?_
 try simp only [Act.put,pA,pZ,pS]
 refine tk 10 48 (.bool true) ?_ ?_
 try simp only [Act.put,pA,pZ,pS]
 refine tk 11 49 (.pointer (some ⟨eb,2,none⟩)) ?_ ?_
 try simp only [Act.put,pA,pZ,pS]
 refine tk 12 50 (.int .i64 ((on:Int) + 1)) ?_ ?_
 try simp only [Act.put,pA,pZ,pS]
 refine tk 13 51 (.pointer (some ⟨cb,0,none⟩)) ?_ ?_
 try simp only [Act.put,pA,pZ,pS]
 refine tk 14 52 (.pointer (some ⟨cb,0,none⟩)) ?_ ?_
 try simp only [Act.put,pA,pZ,pS]
 refine tk 15 53 (.pointer (some ⟨cb,0,none⟩)) ?_ ?_
 try simp only [Act.put,pA,pZ,pS]
 refine tk 16 54 (.slice oa on oc) ?_ ?_
 try simp only [Act.put,pA,pZ,pS]
 refine tk 17 55 (.int .i64 (on:Nat)) ?_ ?_
 try simp only [Act.put,pA,pZ,pS]
 refine tk 18 56 (.int .i64 ((on:Int) + 1)) ?_ ?_
 try simp only [Act.put,pA,pZ,pS]
 refine tk 19 57 (.bool true) ?_ ?_
 try simp only [Act.put,pA,pZ,pS]
 refine tk 20 58 (.bool true) ?_ ?_
 try simp only [Act.put,pA,pZ,pS]
 refine tk 21 59 (.bool true) ?_ ?_
 try simp only [Act.put,pA,pZ,pS]
 refine tk 22 60 (.pointer (some ⟨cb,0,none⟩)) ?_ ?_
 try simp only [Act.put,pA,pZ,pS]
 refine tk 23 61 (.pointer (some ⟨cb,0,none⟩)) ?_ ?_
 try simp only [Act.put,pA,pZ,pS]
 refine tk 24 62 (.pointer (some ⟨cb,0,none⟩)) ?_ ?_
 try simp only [Act.put,pA,pZ,pS]
 refine tk 25 63 (.slice oa on oc) ?_ ?_
 try simp only [Act.put,pA,pZ,pS]
 refine tk 26 64 (.int .i64 (on:Nat)) ?_ ?_
 try simp only [Act.put,pA,pZ,pS]
 refine tk 27 65 (.bool true) ?_ ?_
 try simp only [Act.put,pA,pZ,pS]
 refine tk 28 66 (.bool true) ?_ ?_
 try simp only [Act.put,pA,pZ,pS]
 refine tk 29 67 (.bool true) ?_ ?_
 try simp only [Act.put,pA,pZ,pS]
 refine tk 30 68 (.pointer (some ⟨cb,0,none⟩)) ?_ ?_
 try simp only [Act.put,pA,pZ,pS]
 refine tk 31 69 (.pointer (some ⟨cb,0,none⟩)) ?_ ?_
 try simp only [Act.put,pA,pZ,pS]
 refine tk 32 70 (.pointer (some ⟨cb,2,none⟩)) ?_ ?_
 try simp only [Act.put,pA,pZ,pS]
 refine tk 33 71 (.bool false) ?_ ?_
 try simp only [Act.put,pA,pZ,pS]
 refine tk 34 72 (.bool true) ?_ ?_
 try simp only [Act.put,pA,pZ,pS]
 refine tk 35 73 (.bool true) ?_ ?_
 try simp only [Act.put,pA,pZ,pS]
 refine tk 36 74 (.bool true) ?_ ?_
 try simp only [Act.put,pA,pZ,pS]
 refine tk 37 75 (.pointer (some ⟨eb,5,none⟩)) ?_ ?_
 try simp only [Act.put,pA,pZ,pS]
 refine tk 38 76 (.string T) ?_ ?_
 try simp only [Act.put,pA,pZ,pS]
 refine tk 39 77 (.bool true) ?_ ?_
 try simp only [Act.put,pA,pZ,pS]
 refine tk 40 78 (.bool true) ?_ ?_
 try simp only [Act.put,pA,pZ,pS]
 refine tk 41 79 (.bool true) ?_ ?_
 try simp only [Act.put,pA,pZ,pS]
 refine tk 42 80 (.pointer (some ⟨eb,5,none⟩)) ?_ ?_
 try simp only [Act.put,pA,pZ,pS]
 refine tk 43 81 (.string T) ?_ ?_
 try simp only [Act.put,pA,pZ,pS]
 refine wpAnyH_ready (rs:=[44]) (by kernel_rfl) (by simp) ?_
 refine AllReadyH.cons rfl (fun K hK=>?_) AllReadyH.nil
 go_simp
 (go_at_call 78;(with_reducible refine (HTK.out _ hHeld.2.2.2.2.2.2.2.2).mono ?_);rintro e w3 ⟨rfl,hs3⟩)
 refine hK.out _ _ (HC.out _ hs3) (fun hHeld2=>?_)
 clear hK K hHeld
 try simp only [Act.put,pA,pZ,pS]
 refine tk 45 83 (.bool true) ?_ ?_
 try simp only [Act.put,pA,pZ,pS]
 refine tk 46 84 (.bool true) ?_ ?_
 try simp only [Act.put,pA,pZ,pS]
 refine tk 47 85 (.pointer (some ⟨eb,3,none⟩)) ?_ ?_
 try simp only [Act.put,pA,pZ,pS]
 refine tk 48 86 (.string X) ?_ ?_
 try simp only [Act.put,pA,pZ,pS]
 refine tk 49 87 (.bool false) ?_ ?_
 try simp only [Act.put,pA,pZ,pS]
 refine tk 50 88 (.bool false) ?_ ?_
 try simp only [Act.put,pA,pZ,pS]
 refine tk 51 89 (.bool false) ?_ ?_
 try simp only [Act.put,pA,pZ,pS]
 refine wpAnyH_skips (fuel:=2) (by kernel_rfl) (fun _ _ _ _ h=>h) (by assumption) [52,53,54,55] [some 90,some 91,some 92,some 93] 4 _ _ rfl (by kernel_rfl) ?_
 simp only [listedAfter,putU,Act.put,pA,pZ,pS]
 refine tk 56 94 (.bool false) ?_ ?_
 try simp only [Act.put,pA,pZ,pS]
 refine tk 57 5 (.bool false) ?_ ?_
 try simp only [Act.put,pA,pZ,pS]
 refine wpAnyH_done (by kernel_rfl) ?_ _
 exact HQ0 _ _ _ _ _ _ _ _ _ _ _ _ _ _ _ _ _ _ _ _ _ _ _ _ _ _ _ _ _ _ _ _ _ _ _ _ _ _ _ _ _ _ _ _ _ _ _ _ _ _ _ _ _ _ _ _ _ _ hs3
 all_goals (intro w hSw;(try dsimp only at hSw);(try obtain ⟨g1,g2,g3,g4,g5,g6,g7,g8,_⟩:=hSw);go_simp;first | done | with_reducible rfl | exact f3 | omega | rfl | simp [ew,f3,f5,f7])
set_option maxRecDepth 1000000 in
set_option maxHeartbeats 4000000 in
theorem take7_attrs (SInv:World → Prop) (eb cb:Nat) (oa:Option Addr) (on oc:Nat) (nx:Int) (X T:ByteArray) (A:Option Addr) (m c:Nat) (ew:IntKind.i64.wrap ((on:Int) + 1) = (on:Int) + 1) (f3:0 < on) (f5:T.toList.isEmpty = false) (f7:X.toList.isEmpty = true) (f8:(((m:Nat):Int) == 0) = false) (u1 u2 u4 u6 u7 u8 u9 u10 u11 u12 u13 u14 u15 u16 u17 u18 u19 u20 u21 u22 u23 u24 u25 u26 u27 u28 u29 u30 u31 u32 u33 u34 u35 u36 u37 u38 u39 u40 u41 u42 u43 u44 u45 u46 u47 u48 u49 u50 u51 u52 u53 u54 u55 u56 u57 u58 u59 u60 u61 u62 u63 u64 u65 u66 u67 u68 u69 u70 u71 u72 u73 u74 u75 u76 u77 u78 u79 u80 u81 u82 u83 u84 u85 u86 u87 u88 u89 u90 u91 u92 u93 u94 u95 u96 u97 u98 u99 u100 u101 u102 u103 u104 u105 u106 u107 u108 u109 u110 u111 u112 u113 u114 u115 u116 u117 u118 u119 u120 u121 u122 u123 u124 u125 u126 u127 u128 u129 u130 u131 u132 u133 u134 u135 u136 u137 u138 u139 u140 u141 u142 u143 u144 u145 u146 u147 u148 u149 u150 u151 u152 u153 u154 u155 u156 u157 u158 u159 u160 u161 u162 u163 u164 u165 u166 u167 u168 u169 u170 u171:Value) (w:World)
  (HC:Hid (∀ w',SInv w' → w'.cell? ⟨cb,0,none⟩ = some (.slice oa on oc) ∧ w'.cell? ⟨cb,1,none⟩ = some (.int .i64 nx) ∧ w'.cell? ⟨cb,2,none⟩ = some (.bool false) ∧ w'.cell? ⟨eb,1,none⟩ = some (.int .i64 nx) ∧ w'.cell? ⟨eb,2,none⟩ = some (.int .i64 ((on:Int) + 1)) ∧ w'.cell? ⟨eb,3,none⟩ = some (.string X) ∧ w'.cell? ⟨eb,4,none⟩ = some (.slice A m c) ∧ w'.cell? ⟨eb,5,none⟩ = some (.string T) ∧ SInv w'))
  (HTK:Hid (∀ w',SInv w' → Calls Tryz.prog 78 #[.string T] w' fun e w''=>e = .returned (.bool true) ∧ SInv w''))
  (hS:SInv w.drew) (Q:Exit → Act → World → Prop) (hQ:Hid (∀ y38 y39 y40 y41 y42 y43 y44 y45 y46 y47 y48 y49 y50 y51 y52 y53 y54 y55 y56 y57 y58 y59 y60 y61 y62 y63 y64 y65 y66 y67 y68 y69 y70 y71 y72 y73 y74 y75 y76 y77 y78 y79 y80 y81 y82 y83 y84 y85 y86 y87 y88 y89 y90 y91 y92 y93 y94 w',SInv w' → Q .normal ⟨#[.pointer (some ⟨cb,0,none⟩),u1,u2,.pointer (some ⟨eb,0,none⟩),u4,.bool false,u6,u7,u8,u9,u10,u11,u12,u13,u14,u15,u16,u17,u18,u19,u20,u21,u22,u23,u24,u25,u26,u27,u28,u29,u30,u31,u32,u33,u34,u35,u36,u37,y38,y39,y40,y41,y42,y43,y44,y45,y46,y47,y48,y49,y50,y51,y52,y53,y54,y55,y56,y57,y58,y59,y60,y61,y62,y63,y64,y65,y66,y67,y68,y69,y70,y71,y72,y73,y74,y75,y76,y77,y78,y79,y80,y81,y82,y83,y84,y85,y86,y87,y88,y89,y90,y91,y92,y93,y94,u95,u96,u97,u98,u99,u100,u101,u102,u103,u104,u105,u106,u107,u108,u109,u110,u111,u112,u113,u114,u115,u116,u117,u118,u119,u120,u121,u122,u123,u124,u125,u126,u127,u128,u129,u130,u131,u132,u133,u134,u135,u136,u137,u138,u139,u140,u141,u142,u143,u144,u145,u146,u147,u148,u149,u150,u151,u152,u153,u154,u155,u156,u157,u158,u159,u160,u161,u162,u163,u164,u165,u166,u167,u168,u169,u170,u171],[]⟩ w')) :
  Code.wp Tryz.prog take7 Q ⟨#[.pointer (some ⟨cb,0,none⟩),u1,u2,.pointer (some ⟨eb,0,none⟩),u4,.bool true,u6,u7,u8,u9,u10,u11,u12,u13,u14,u15,u16,u17,u18,u19,u20,u21,u22,u23,u24,u25,u26,u27,u28,u29,u30,u31,u32,u33,u34,u35,u36,u37,u38,u39,u40,u41,u42,u43,u44,u45,u46,u47,u48,u49,u50,u51,u52,u53,u54,u55,u56,u57,u58,u59,u60,u61,u62,u63,u64,u65,u66,u67,u68,u69,u70,u71,u72,u73,u74,u75,u76,u77,u78,u79,u80,u81,u82,u83,u84,u85,u86,u87,u88,u89,u90,u91,u92,u93,u94,u95,u96,u97,u98,u99,u100,u101,u102,u103,u104,u105,u106,u107,u108,u109,u110,u111,u112,u113,u114,u115,u116,u117,u118,u119,u120,u121,u122,u123,u124,u125,u126,u127,u128,u129,u130,u131,u132,u133,u134,u135,u136,u137,u138,u139,u140,u141,u142,u143,u144,u145,u146,u147,u148,u149,u150,u151,u152,u153,u154,u155,u156,u157,u158,u159,u160,u161,u162,u163,u164,u165,u166,u167,u168,u169,u170,u171],[]⟩ w:=by
 conv=>arg 2;whnf
 have HQ0:=hQ.out
 refine wp_region_noPanic ?_
 refine wp_region_held_drew (S:=(fun w'=>w'.cell? ⟨cb,0,none⟩ = some (.slice oa on oc) ∧ w'.cell? ⟨cb,1,none⟩ = some (.int .i64 nx) ∧ w'.cell? ⟨cb,2,none⟩ = some (.bool false) ∧ w'.cell? ⟨eb,1,none⟩ = some (.int .i64 nx) ∧ w'.cell? ⟨eb,2,none⟩ = some (.int .i64 ((on:Int) + 1)) ∧ w'.cell? ⟨eb,3,none⟩ = some (.string X) ∧ w'.cell? ⟨eb,4,none⟩ = some (.slice A m c) ∧ w'.cell? ⟨eb,5,none⟩ = some (.string T) ∧ SInv w')) (by kernel_rfl) (HC.out _ hS) (fun hHeld=>?_)
 refine tk 0 38 (.bool true) ?_ ?_
 try simp only [Act.put,pA,pZ,pS]
 refine tk 1 39 (.bool true) ?_ ?_
 try simp only [Act.put,pA,pZ,pS]
 refine tk 2 40 (.pointer (some ⟨eb,1,none⟩)) ?_ ?_
 try simp only [Act.put,pA,pZ,pS]
 refine tk 3 41 (.int .i64 nx) ?_ ?_
 try simp only [Act.put,pA,pZ,pS]
 refine tk 4 42 (.pointer (some ⟨cb,0,none⟩)) ?_ ?_
 try simp only [Act.put,pA,pZ,pS]
 refine tk 5 43 (.pointer (some ⟨cb,0,none⟩)) ?_ ?_
 try simp only [Act.put,pA,pZ,pS]
 refine tk 6 44 (.pointer (some ⟨cb,1,none⟩)) ?_ ?_
 try simp only [Act.put,pA,pZ,pS]
 refine tk 7 45 (.int .i64 nx) ?_ ?_
 try simp only [Act.put,pA,pZ,pS]
 refine tk 8 46 (.bool true) ?_ ?_
 try simp only [Act.put,pA,pZ,pS]
 refine tk 9 47 (.bool true) ?_ ?_
 try simp only [Act.put,pA,pZ,pS]
 refine tk 10 48 (.bool true) ?_ ?_
 try simp only [Act.put,pA,pZ,pS]
 refine tk 11 49 (.pointer (some ⟨eb,2,none⟩)) ?_ ?_
 try simp only [Act.put,pA,pZ,pS]
 refine tk 12 50 (.int .i64 ((on:Int) + 1)) ?_ ?_
 try simp only [Act.put,pA,pZ,pS]
 refine tk 13 51 (.pointer (some ⟨cb,0,none⟩)) ?_ ?_
 try simp only [Act.put,pA,pZ,pS]
 refine tk 14 52 (.pointer (some ⟨cb,0,none⟩)) ?_ ?_
 try simp only [Act.put,pA,pZ,pS]
 refine tk 15 53 (.pointer (some ⟨cb,0,none⟩)) ?_ ?_
 try simp only [Act.put,pA,pZ,pS]
 refine tk 16 54 (.slice oa on oc) ?_ ?_
 try simp only [Act.put,pA,pZ,pS]
 refine tk 17 55 (.int .i64 (on:Nat)) ?_ ?_
 try simp only [Act.put,pA,pZ,pS]
 refine tk 18 56 (.int .i64 ((on:Int) + 1)) ?_ ?_
 try simp only [Act.put,pA,pZ,pS]
 refine tk 19 57 (.bool true) ?_ ?_
 try simp only [Act.put,pA,pZ,pS]
 refine tk 20 58 (.bool true) ?_ ?_
 try simp only [Act.put,pA,pZ,pS]
 refine tk 21 59 (.bool true) ?_ ?_
 try simp only [Act.put,pA,pZ,pS]
 refine tk 22 60 (.pointer (some ⟨cb,0,none⟩)) ?_ ?_
 try simp only [Act.put,pA,pZ,pS]
 refine tk 23 61 (.pointer (some ⟨cb,0,none⟩)) ?_ ?_
 try simp only [Act.put,pA,pZ,pS]
 refine tk 24 62 (.pointer (some ⟨cb,0,none⟩)) ?_ ?_
 try simp only [Act.put,pA,pZ,pS]
 refine tk 25 63 (.slice oa on oc) ?_ ?_
 try simp only [Act.put,pA,pZ,pS]
 refine tk 26 64 (.int .i64 (on:Nat)) ?_ ?_
 try simp only [Act.put,pA,pZ,pS]
 refine tk 27 65 (.bool true) ?_ ?_
 try simp only [Act.put,pA,pZ,pS]
 refine tk 28 66 (.bool true) ?_ ?_
 try simp only [Act.put,pA,pZ,pS]
 refine tk 29 67 (.bool true) ?_ ?_
 try simp only [Act.put,pA,pZ,pS]
 refine tk 30 68 (.pointer (some ⟨cb,0,none⟩)) ?_ ?_
 try simp only [Act.put,pA,pZ,pS]
 refine tk 31 69 (.pointer (some ⟨cb,0,none⟩)) ?_ ?_
 try simp only [Act.put,pA,pZ,pS]
 refine tk 32 70 (.pointer (some ⟨cb,2,none⟩)) ?_ ?_
 try simp only [Act.put,pA,pZ,pS]
 refine tk 33 71 (.bool false) ?_ ?_
 try simp only [Act.put,pA,pZ,pS]
 refine tk 34 72 (.bool true) ?_ ?_
 try simp only [Act.put,pA,pZ,pS]
 refine tk 35 73 (.bool true) ?_ ?_
 try simp only [Act.put,pA,pZ,pS]
 refine tk 36 74 (.bool true) ?_ ?_
 try simp only [Act.put,pA,pZ,pS]
 refine tk 37 75 (.pointer (some ⟨eb,5,none⟩)) ?_ ?_
 try simp only [Act.put,pA,pZ,pS]
 refine tk 38 76 (.string T) ?_ ?_
 try simp only [Act.put,pA,pZ,pS]
 refine tk 39 77 (.bool true) ?_ ?_
 try simp only [Act.put,pA,pZ,pS]
 refine tk 40 78 (.bool true) ?_ ?_
 try simp only [Act.put,pA,pZ,pS]
 refine tk 41 79 (.bool true) ?_ ?_
 try simp only [Act.put,pA,pZ,pS]
 refine tk 42 80 (.pointer (some ⟨eb,5,none⟩)) ?_ ?_
 try simp only [Act.put,pA,pZ,pS]
 refine tk 43 81 (.string T) ?_ ?_
 try simp only [Act.put,pA,pZ,pS]
 refine wpAnyH_ready (rs:=[44]) (by kernel_rfl) (by simp) ?_
 refine AllReadyH.cons rfl (fun K hK=>?_) AllReadyH.nil
 go_simp
 (go_at_call 78;(with_reducible refine (HTK.out _ hHeld.2.2.2.2.2.2.2.2).mono ?_);rintro e w3 ⟨rfl,hs3⟩)
 refine hK.out _ _ (HC.out _ hs3) (fun hHeld2=>?_)
 clear hK K hHeld
 try simp only [Act.put,pA,pZ,pS]
 refine tk 45 83 (.bool true) ?_ ?_
 try simp only [Act.put,pA,pZ,pS]
 refine tk 46 84 (.bool true) ?_ ?_
 try simp only [Act.put,pA,pZ,pS]
 refine tk 47 85 (.pointer (some ⟨eb,3,none⟩)) ?_ ?_
 try simp only [Act.put,pA,pZ,pS]
 refine tk 48 86 (.string X) ?_ ?_
 try simp only [Act.put,pA,pZ,pS]
 refine tk 49 87 (.bool true) ?_ ?_
 try simp only [Act.put,pA,pZ,pS]
 refine tk 50 88 (.bool true) ?_ ?_
 try simp only [Act.put,pA,pZ,pS]
 refine tk 51 89 (.bool true) ?_ ?_
 try simp only [Act.put,pA,pZ,pS]
 refine tk 52 90 (.pointer (some ⟨eb,4,none⟩)) ?_ ?_
 try simp only [Act.put,pA,pZ,pS]
 refine tk 53 91 (.slice A m c) ?_ ?_
 try simp only [Act.put,pA,pZ,pS]
 refine tk 54 92 (.int .i64 (m:Nat)) ?_ ?_
 try simp only [Act.put,pA,pZ,pS]
 refine tk 55 93 (.bool false) ?_ ?_
 try simp only [Act.put,pA,pZ,pS]
 refine tk 56 94 (.bool false) ?_ ?_
 try simp only [Act.put,pA,pZ,pS]
 refine tk 57 5 (.bool false) ?_ ?_
 try simp only [Act.put,pA,pZ,pS]
 refine wpAnyH_done (by kernel_rfl) ?_ _
 exact HQ0 _ _ _ _ _ _ _ _ _ _ _ _ _ _ _ _ _ _ _ _ _ _ _ _ _ _ _ _ _ _ _ _ _ _ _ _ _ _ _ _ _ _ _ _ _ _ _ _ _ _ _ _ _ _ _ _ _ _ hs3
 all_goals (intro w hSw;(try dsimp only at hSw);(try obtain ⟨g1,g2,g3,g4,g5,g6,g7,g8,_⟩:=hSw);go_simp;first | done | with_reducible rfl | exact f3 | omega | rfl | simp [ew,f3,f5,f7,f8])
end Go.Proofs.YtgjokdngbocehaaGreatDoor
namespace Go.Proofs.YtgjokdngbocehaaGreatDoor
open Go.RowKit
def begR (l:List Ev):Bool × Int × Bool:=match begAll beg0 l with
 | some s=>(true,s.opn.length,decide (l ≠ [] ∧ s.opn = []))
 | none=>(false,0,false)
def retB (r:Bool × Int × Bool):Ending:=.returned (.tuple #[.bool r.1,.int .i64 r.2.1,.bool r.2.2])
theorem retB_bad {l:List Ev} (h:begR l = (false,0,false)):Ending.returned (.tuple #[.bool false,.int .i64 0,.bool false]) = retB (begR l):=by rw [h];rfl
def PosOk (evs:List Ev):List Nat → List (Int × Int × List UInt8) → Prop
 | [],[]=>True
 | p :: ps,x :: xs=>(∃ e,evs[p]? = some e ∧ x = (e.num,e.dep,e.name)) ∧ PosOk evs ps xs
 | _,_=>False
theorem PosOk.length {evs:List Ev}:∀ {ps:List Nat} {xs:List (Int × Int × List UInt8)},PosOk evs ps xs → ps.length = xs.length
 | [],[],_=>rfl
 | p :: ps,x :: xs,h=>by rw [List.length_cons,List.length_cons,PosOk.length h.2]
 | [],_ :: _,h=>h.elim
 | _ :: _,[],h=>h.elim
def posC (l:List Nat):List Value:=l.reverse.map fun (p:Nat)=>.int .i64 (p:Int)
theorem posC_cons (p:Nat) (l:List Nat):posC (p :: l) = posC l ++ [.int .i64 p]:=by simp [posC]
theorem posC_length (l:List Nat):(posC l).length = l.length:=by simp [posC]
theorem posC_top (p:Nat) (l:List Nat):(posC (p :: l))[l.length]? = some (.int .i64 p):=by rw [posC_cons,← posC_length];simp
structure BgInv (evs:List Ev) (k:Nat) (s:BegS) (nx:Int) (pos:List Nat):Prop where
 all:begAll beg0 (evs.take k) = some s
 nx:s.next = nx
 pos:PosOk evs pos s.opn
 text:∀ j,k = j + 1 → ∃ e,evs[j]? = some e ∧ s.text = (e.kind == 1)
variable {evs:List Ev} {k:Nat} {s:BegS} {nx:Int} {pos:List Nat} {e:Ev}
theorem BgInv.cnt (h:BgInv evs k s nx pos) (hk:k ≤ evs.length):s.cnt = k:=by
 have h1:=(nodesB_inv h.all).cnt
 rw [h1,List.length_take];omega
theorem BgInv.len (h:BgInv evs k s nx pos):pos.length = s.opn.length:=h.pos.length
theorem BgInv.next (h:BgInv evs k s nx pos) (hek:evs[k]? = some e) (hok:begOk s e = true):begAll beg0 (evs.take (k + 1)) = some (begNext s e):=by
 obtain ⟨hk,hee⟩:=List.getElem?_eq_some_iff.1 hek
 rw [List.take_succ_eq_append_getElem hk,begAll_snoc,h.all,hee]
 simp [hok]
theorem BgInv.bad (h:BgInv evs k s nx pos) (hek:evs[k]? = some e) (hok:begOk s e = false):begR evs = (false,0,false):=by
 obtain ⟨hk,hee⟩:=List.getElem?_eq_some_iff.1 hek
 have:begAll beg0 evs = none:=by
  rw [← List.take_append_drop k evs,begAll_app,h.all,List.drop_eq_getElem_cons hk,hee]
  simp [begAll,hok]
 unfold begR
 rw [this]
theorem BgInv.step0 (h:BgInv evs k s nx pos) (hek:evs[k]? = some e) (h0:e.kind = 0) (hok:begOk s e = true):BgInv evs (k + 1) (begNext s e) (nx + 1) (k :: pos) :=
 ⟨h.next hek hok,by rw [← h.nx];simp [begNext,h0],by
  have:(begNext s e).opn = (e.num,e.dep,e.name) :: s.opn:=by simp [begNext,h0]
  rw [this]
  exact ⟨⟨e,hek,rfl⟩,h.pos⟩,fun j hj=>⟨e,by rw [show j = k by omega];exact hek,rfl⟩⟩
theorem BgInv.step1 (h:BgInv evs k s nx pos) (hek:evs[k]? = some e) (h1:e.kind = 1) (hok:begOk s e = true):BgInv evs (k + 1) (begNext s e) (nx + 1) pos :=
 ⟨h.next hek hok,by rw [← h.nx];simp [begNext,h1],by
  have:(begNext s e).opn = s.opn:=by simp [begNext,h1]
  rw [this]
  exact h.pos,fun j hj=>⟨e,by rw [show j = k by omega];exact hek,rfl⟩⟩
theorem BgInv.step2 {p:Nat} (h:BgInv evs k s nx (p :: pos)) (hek:evs[k]? = some e) (h2:e.kind = 2) (hok:begOk s e = true):BgInv evs (k + 1) (begNext s e) nx pos :=
 ⟨h.next hek hok,by rw [← h.nx];simp [begNext,h2],by
  have:(begNext s e).opn = s.opn.tail:=by simp [begNext,h2]
  rw [this]
  have hp:=h.pos
  cases ho:s.opn with
  | nil=>rw [ho] at hp;exact hp.elim
  | cons x xs=>rw [ho] at hp;exact hp.2,fun j hj=>⟨e,by rw [show j = k by omega];exact hek,rfl⟩⟩
theorem BgInv.top {p:Nat} (h:BgInv evs k s nx (p :: pos)):∃ e',evs[p]? = some e' ∧ s.opn.head? = some (e'.num,e'.dep,e'.name):=by
 have hp:=h.pos
 cases ho:s.opn with
 | nil=>rw [ho] at hp;exact hp.elim
 | cons x xs =>
  rw [ho] at hp
  obtain ⟨e',h1,h2⟩:=hp.1
  exact ⟨e',h1,by rw [h2];rfl⟩
theorem dec_and (a b:Prop) [Decidable a] [Decidable b]:decide (a ∧ b) = (decide a && decide b):=by simp
theorem begOk0 (s:BegS) (num dep:Int) (name text:List UInt8) (ats:List (List UInt8 × List UInt8)) (fr tt:Int) :
  begOk s ⟨0,num,dep,name,ats,text,fr,tt⟩ = (decide (s.cnt = 0 ∨ s.opn ≠ []) && (decide (num = s.next) && (decide (dep = (s.opn.length:Int) + 1) && (text.isEmpty && (nameB name && attrsB none ats))))):=by
 unfold begOk
 rw [if_pos rfl,dec_and,dec_and,dec_and]
 have:decide (text = []) = text.isEmpty:=by cases text <;> simp
 simp only [this,Bool.and_assoc]
theorem begOk1 (s:BegS) (num dep:Int) (name text:List UInt8) (ats:List (List UInt8 × List UInt8)) (fr tt:Int) :
  begOk s ⟨1,num,dep,name,ats,text,fr,tt⟩ = (decide (s.opn ≠ []) && (decide (num = s.next) && (decide (dep = (s.opn.length:Int) + 1) && (name.isEmpty && (ats.isEmpty && (!text.isEmpty && (textsB text && !s.text))))))):=by
 unfold begOk
 rw [if_neg (by simp),if_pos rfl,dec_and,dec_and,dec_and,dec_and,dec_and]
 have h1:decide (name = []) = name.isEmpty:=by cases name <;> simp
 have h2:decide (ats = []) = ats.isEmpty:=by cases ats <;> simp
 have h3:decide (text ≠ []) = !text.isEmpty:=by cases text <;> simp
 simp only [h1,h2,h3,Bool.and_assoc]
theorem begOk2 (s:BegS) (num dep:Int) (name text:List UInt8) (ats:List (List UInt8 × List UInt8)) (fr tt:Int) :
  begOk s ⟨2,num,dep,name,ats,text,fr,tt⟩ = (text.isEmpty && (ats.isEmpty && decide (s.opn.head? = some (num,dep,name)))):=by
 unfold begOk
 rw [if_neg (by simp),if_neg (by simp),if_pos rfl,dec_and,dec_and]
 have h1:decide (text = []) = text.isEmpty:=by cases text <;> simp
 have h2:decide (ats = []) = ats.isEmpty:=by cases ats <;> simp
 simp only [h1,h2]
theorem begOk3 (s:BegS) (e:Ev) (h0:e.kind ≠ 0) (h1:e.kind ≠ 1) (h2:e.kind ≠ 2):begOk s e = false:=by
 unfold begOk
 rw [if_neg h0,if_neg h1,if_neg h2]
theorem begOk_closed (s:BegS) (e:Ev) (h0:s.cnt ≠ 0) (h1:s.opn = []):begOk s e = false:=by
 unfold begOk
 split
 ·rw [decide_eq_false (by simp [h0,h1])];rfl
 ·split
  ·rw [decide_eq_false (by simp [h1])];rfl
  ·split
   ·rw [decide_eq_false (by simp [h1])]
   ·rfl
theorem begR_all (h:begAll beg0 evs = some s):begR evs = (true,(s.opn.length:Int),decide (evs ≠ [] ∧ s.opn = [])):=by unfold begR;rw [h]
end Go.Proofs.YtgjokdngbocehaaGreatDoor
