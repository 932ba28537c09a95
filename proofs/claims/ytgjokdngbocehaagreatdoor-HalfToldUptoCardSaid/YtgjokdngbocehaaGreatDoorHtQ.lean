/-
  (*tree.Check).opens: its sixth region, in the cases that skip operations.
-/
import Derived.Test.YtgjokdngbocehaaGreatDoorHtA
import Derived.Test.YtgjokdngbocehaaGreatDoorHtD
import Derived.Test.YtgjokdngbocehaaGreatDoorHtE
import Derived.Test.YtgjokdngbocehaaGreatDoorHtF
import Derived.Test.YtgjokdngbocehaaGreatDoorHtH
import Derived.Test.YtgjokdngbocehaaGreatDoorHtK
import Derived.Test.YtgjokdngbocehaaGreatDoorHtP
namespace Go.Proofs.YtgjokdngbocehaaGreatDoor
open Go.RowKit
def regNo6 (n:Nat):Code → Option Code
 | .region id ops b=>if id == n then some (.region id ops b) else none
 | .seq a b=>match regNo6 n a with
  | some c=>some c
  | none=>regNo6 n b
 | .loop c=>regNo6 n c
 | .block _ c=>regNo6 n c
 | .scope c=>regNo6 n c
 | .cond _ a b=>match regNo6 n a with
  | some c=>some c
  | none=>regNo6 n b
 | _=>none
noncomputable def opens6:Code:=((Tryz.f77.body.bind (regNo6 6)).getD .skip)
set_option maxRecDepth 1000000 in
set_option maxHeartbeats 4000000 in
theorem opens6_zero (SInv:World → Prop) (eb ab:Nat) (nm vl:ByteArray) (u0 u1 u2 u4 u7 u8 u9 u10 u11 u12 u13 u14 u15 u16 u17 u18 u19 u20 u21 u22 u23 u24 u25 u26 u27 u28 u29 u30 u31 u32 u33 u34 u35 u36 u37 u38 u39 u40 u41 u42 u43 u44 u45 u46 u47 u48 u49 u50 u51 u52 u53 u54 u55 u56 u57 u58 u59 u60 u61 u62 u63 u64 u65 u66 u67 u68 u69 u70:Value) (w:World)
  (HC:Hid (∀ w',SInv w' → w'.cell? ⟨ab,0,none⟩ = some (.string nm) ∧ w'.cell? ⟨ab,1,none⟩ = some (.string vl) ∧ SInv w'))
  (HNK:Hid (∀ w',SInv w' → Calls Tryz.prog 88 #[.string nm] w' fun e w''=>e = .returned (.bool true) ∧ SInv w''))
  (HTK:Hid (∀ w',SInv w' → Calls Tryz.prog 78 #[.string vl] w' fun e w''=>e = .returned (.bool true) ∧ SInv w''))
  (hS:SInv w.drew) (Q:Exit → Act → World → Prop) (hQ:Hid (∀ w',SInv w' → Q .normal ⟨#[u0,u1,u2,.pointer (some ⟨eb,0,none⟩),u4,.int .i64 0,.pointer (some ⟨ab,0,none⟩),u7,u8,u9,u10,u11,u12,u13,u14,u15,u16,u17,u18,u19,u20,u21,u22,u23,u24,u25,u26,u27,u28,u29,u30,u31,u32,u33,u34,u35,u36,u37,u38,u39,u40,u41,u42,u43,.pointer (some ⟨ab,0,none⟩),.string nm,.bool true,.bool false,.bool false,.pointer (some ⟨ab,1,none⟩),.string vl,.bool true,.bool false,.bool false,.bool false,.int .i64 0,.bool false,.bool false,undef,undef,undef,undef,undef,undef,undef,undef,undef,undef,.bool false,.bool false,u70],[]⟩ w')) :
  Code.wp Tryz.prog opens6 Q ⟨#[u0,u1,u2,.pointer (some ⟨eb,0,none⟩),u4,.int .i64 0,.pointer (some ⟨ab,0,none⟩),u7,u8,u9,u10,u11,u12,u13,u14,u15,u16,u17,u18,u19,u20,u21,u22,u23,u24,u25,u26,u27,u28,u29,u30,u31,u32,u33,u34,u35,u36,u37,u38,u39,u40,u41,u42,u43,u44,u45,u46,u47,u48,u49,u50,u51,u52,u53,u54,u55,u56,u57,u58,u59,u60,u61,u62,u63,u64,u65,u66,u67,u68,u69,u70],[]⟩ w:=by
 conv=>arg 2;whnf
 have HQ0:=hQ.out
 refine wp_region_noPanic ?_
 refine wp_region_held_drew (S:=(fun w'=>w'.cell? ⟨ab,0,none⟩ = some (.string nm) ∧ w'.cell? ⟨ab,1,none⟩ = some (.string vl) ∧ SInv w')) (by kernel_rfl) (HC.out _ hS) (fun hHeld=>?_)
 refine wpAnyH_take (i:=0) (oi:=⟨some 44,_,_,_,_,_⟩) (v:=?_) rfl (by kernel_rfl) (by kernel_rfl) (by kernel_rfl) (fun _ _ _ h=>h) (Or.inl ⟨by kernel_rfl,?_⟩) (by assumption) ?_
 rotate_left
 ·intro w hSw;(try dsimp only at hSw);go_simp;try with_reducible rfl
 try simp only [Act.put,List.setIfInBounds_toArray,List.set_cons_zero,List.set_cons_succ]
 refine wpAnyH_take (i:=1) (oi:=⟨some 45,_,_,_,_,_⟩) (v:=?_) rfl (by kernel_rfl) (by kernel_rfl) (by kernel_rfl) (fun _ _ _ h=>h) (Or.inl ⟨by kernel_rfl,?_⟩) (by assumption) ?_
 rotate_left
 ·intro w hSw;(try dsimp only at hSw);go_simp;try with_reducible rfl
 try simp only [Act.put,List.setIfInBounds_toArray,List.set_cons_zero,List.set_cons_succ]
 refine wpAnyH_ready (rs:=[2]) (by kernel_rfl) (by simp) ?_
 refine AllReadyH.cons rfl (fun K hK=>?_) AllReadyH.nil
 go_simp
 (go_at_call 88;(with_reducible refine (HNK.out _ (by first | exact hHeld.2.2)).mono ?_);rintro e w2 ⟨rfl,hs2⟩)
 refine hK.out _ _ (HC.out _ hs2) (fun hHeld2=>?_)
 clear hK K
 try simp only [Act.put,List.setIfInBounds_toArray,List.set_cons_zero,List.set_cons_succ]
 refine wpAnyH_take (i:=3) (oi:=⟨some 47,_,_,_,_,_⟩) (v:=?_) rfl (by kernel_rfl) (by kernel_rfl) (by kernel_rfl) (fun _ _ _ h=>h) (Or.inl ⟨by kernel_rfl,?_⟩) (by assumption) ?_
 rotate_left
 ·intro w hSw;(try dsimp only at hSw);go_simp;try with_reducible rfl
 try simp only [Act.put,List.setIfInBounds_toArray,List.set_cons_zero,List.set_cons_succ]
 refine wpAnyH_take (i:=4) (oi:=⟨some 48,_,_,_,_,_⟩) (v:=?_) rfl (by kernel_rfl) (by kernel_rfl) (by kernel_rfl) (fun _ _ _ h=>h) (Or.inl ⟨by kernel_rfl,?_⟩) (by assumption) ?_
 rotate_left
 ·intro w hSw;(try dsimp only at hSw);go_simp;try with_reducible rfl
 try simp only [Act.put,List.setIfInBounds_toArray,List.set_cons_zero,List.set_cons_succ]
 refine wpAnyH_take (i:=5) (oi:=⟨some 49,_,_,_,_,_⟩) (v:=?_) rfl (by kernel_rfl) (by kernel_rfl) (by kernel_rfl) (fun _ _ _ h=>h) (Or.inl ⟨by kernel_rfl,?_⟩) (by assumption) ?_
 rotate_left
 ·intro w hSw;(try dsimp only at hSw);go_simp;try with_reducible rfl
 try simp only [Act.put,List.setIfInBounds_toArray,List.set_cons_zero,List.set_cons_succ]
 refine wpAnyH_take (i:=6) (oi:=⟨some 50,_,_,_,_,_⟩) (v:=?_) rfl (by kernel_rfl) (by kernel_rfl) (by kernel_rfl) (fun _ _ _ h=>h) (Or.inl ⟨by kernel_rfl,?_⟩) (by assumption) ?_
 rotate_left
 ·intro w hSw;(try dsimp only at hSw);go_simp;try with_reducible rfl
 try simp only [Act.put,List.setIfInBounds_toArray,List.set_cons_zero,List.set_cons_succ]
 refine wpAnyH_ready (rs:=[7]) (by kernel_rfl) (by simp) ?_
 refine AllReadyH.cons rfl (fun K hK=>?_) AllReadyH.nil
 go_simp
 (go_at_call 78;(with_reducible refine (HTK.out _ (by first | exact hHeld2.2.2)).mono ?_);rintro e w7 ⟨rfl,hs7⟩)
 refine hK.out _ _ (HC.out _ hs7) (fun hHeld7=>?_)
 clear hK K
 try simp only [Act.put,List.setIfInBounds_toArray,List.set_cons_zero,List.set_cons_succ]
 refine wpAnyH_take (i:=8) (oi:=⟨some 52,_,_,_,_,_⟩) (v:=?_) rfl (by kernel_rfl) (by kernel_rfl) (by kernel_rfl) (fun _ _ _ h=>h) (Or.inl ⟨by kernel_rfl,?_⟩) (by assumption) ?_
 rotate_left
 ·intro w hSw;(try dsimp only at hSw);go_simp;try with_reducible rfl
 try simp only [Act.put,List.setIfInBounds_toArray,List.set_cons_zero,List.set_cons_succ]
 refine wpAnyH_take (i:=9) (oi:=⟨some 53,_,_,_,_,_⟩) (v:=?_) rfl (by kernel_rfl) (by kernel_rfl) (by kernel_rfl) (fun _ _ _ h=>h) (Or.inl ⟨by kernel_rfl,?_⟩) (by assumption) ?_
 rotate_left
 ·intro w hSw;(try dsimp only at hSw);go_simp;try with_reducible rfl
 try simp only [Act.put,List.setIfInBounds_toArray,List.set_cons_zero,List.set_cons_succ]
 refine wpAnyH_take (i:=10) (oi:=⟨some 54,_,_,_,_,_⟩) (v:=?_) rfl (by kernel_rfl) (by kernel_rfl) (by kernel_rfl) (fun _ _ _ h=>h) (Or.inl ⟨by kernel_rfl,?_⟩) (by assumption) ?_
 rotate_left
 ·intro w hSw;(try dsimp only at hSw);go_simp;try with_reducible rfl
 try simp only [Act.put,List.setIfInBounds_toArray,List.set_cons_zero,List.set_cons_succ]
 refine wpAnyH_take (i:=11) (oi:=⟨some 55,_,_,_,_,_⟩) (v:=?_) rfl (by kernel_rfl) (by kernel_rfl) (by kernel_rfl) (fun _ _ _ h=>h) (Or.inl ⟨by kernel_rfl,?_⟩) (by assumption) ?_
 rotate_left
 ·intro w hSw;(try dsimp only at hSw);go_simp;try with_reducible rfl
 try simp only [Act.put,List.setIfInBounds_toArray,List.set_cons_zero,List.set_cons_succ]
 refine wpAnyH_take (i:=12) (oi:=⟨some 56,_,_,_,_,_⟩) (v:=?_) rfl (by kernel_rfl) (by kernel_rfl) (by kernel_rfl) (fun _ _ _ h=>h) (Or.inl ⟨by kernel_rfl,?_⟩) (by assumption) ?_
 rotate_left
 ·intro w hSw;(try dsimp only at hSw);go_simp;try with_reducible rfl
 try simp only [Act.put,List.setIfInBounds_toArray,List.set_cons_zero,List.set_cons_succ]
 refine wpAnyH_take (i:=13) (oi:=⟨some 57,_,_,_,_,_⟩) (v:=?_) rfl (by kernel_rfl) (by kernel_rfl) (by kernel_rfl) (fun _ _ _ h=>h) (Or.inl ⟨by kernel_rfl,?_⟩) (by assumption) ?_
 rotate_left
 ·intro w hSw;(try dsimp only at hSw);go_simp;try with_reducible rfl
 try simp only [Act.put,List.setIfInBounds_toArray,List.set_cons_zero,List.set_cons_succ]
 refine wpAnyH_skips (fuel:=2) (by kernel_rfl) (fun _ _ _ _ h=>h) (by assumption) [14,15,16,17,18,19,20,21,22,23] [some 58,some 59,some 60,some 61,some 62,some 63,some 64,some 65,some 66,some 67] 10 _ _ rfl (by kernel_rfl) ?_
 simp only [listedAfter,putU,Act.put,List.setIfInBounds_toArray,List.set_cons_zero,List.set_cons_succ]
 refine wpAnyH_take (i:=24) (oi:=⟨some 68,_,_,_,_,_⟩) (v:=?_) rfl (by kernel_rfl) (by kernel_rfl) (by kernel_rfl) (fun _ _ _ h=>h) (Or.inl ⟨by kernel_rfl,?_⟩) (by assumption) ?_
 rotate_left
 ·intro w hSw;(try dsimp only at hSw);go_simp;try with_reducible rfl
 try simp only [Act.put,List.setIfInBounds_toArray,List.set_cons_zero,List.set_cons_succ]
 refine wpAnyH_take (i:=25) (oi:=⟨some 69,_,_,_,_,_⟩) (v:=?_) rfl (by kernel_rfl) (by kernel_rfl) (by kernel_rfl) (fun _ _ _ h=>h) (Or.inl ⟨by kernel_rfl,?_⟩) (by assumption) ?_
 rotate_left
 ·intro w hSw;(try dsimp only at hSw);go_simp;try with_reducible rfl
 try simp only [Act.put,List.setIfInBounds_toArray,List.set_cons_zero,List.set_cons_succ]
 refine wpAnyH_done (by kernel_rfl) ?_ _
 exact HQ0 _ hs7
set_option maxRecDepth 1000000 in
set_option maxHeartbeats 4000000 in
theorem opens6_name (SInv:World → Prop) (eb ab k:Nat) (nm vl:ByteArray) (u0 u1 u2 u4 u7 u8 u9 u10 u11 u12 u13 u14 u15 u16 u17 u18 u19 u20 u21 u22 u23 u24 u25 u26 u27 u28 u29 u30 u31 u32 u33 u34 u35 u36 u37 u38 u39 u40 u41 u42 u43 u44 u45 u46 u47 u48 u49 u50 u51 u52 u53 u54 u55 u56 u57 u58 u59 u60 u61 u62 u63 u64 u65 u66 u67 u68 u69 u70:Value) (w:World)
  (HC:Hid (∀ w',SInv w' → w'.cell? ⟨ab,0,none⟩ = some (.string nm) ∧ w'.cell? ⟨ab,1,none⟩ = some (.string vl) ∧ SInv w'))
  (HNK:Hid (∀ w',SInv w' → Calls Tryz.prog 88 #[.string nm] w' fun e w''=>e = .returned (.bool false) ∧ SInv w''))
  (hS:SInv w.drew) (Q:Exit → Act → World → Prop) (hQ:Hid (∀ w',SInv w' → Q .normal ⟨#[u0,u1,u2,.pointer (some ⟨eb,0,none⟩),u4,.int .i64 k,.pointer (some ⟨ab,0,none⟩),u7,u8,u9,u10,u11,u12,u13,u14,u15,u16,u17,u18,u19,u20,u21,u22,u23,u24,u25,u26,u27,u28,u29,u30,u31,u32,u33,u34,u35,u36,u37,u38,u39,u40,u41,u42,u43,.pointer (some ⟨ab,0,none⟩),.string nm,.bool false,.bool true,.bool true,undef,undef,undef,undef,.bool true,.bool true,undef,undef,undef,undef,undef,undef,undef,undef,undef,undef,undef,undef,undef,undef,.bool true,u70],[]⟩ w')) :
  Code.wp Tryz.prog opens6 Q ⟨#[u0,u1,u2,.pointer (some ⟨eb,0,none⟩),u4,.int .i64 k,.pointer (some ⟨ab,0,none⟩),u7,u8,u9,u10,u11,u12,u13,u14,u15,u16,u17,u18,u19,u20,u21,u22,u23,u24,u25,u26,u27,u28,u29,u30,u31,u32,u33,u34,u35,u36,u37,u38,u39,u40,u41,u42,u43,u44,u45,u46,u47,u48,u49,u50,u51,u52,u53,u54,u55,u56,u57,u58,u59,u60,u61,u62,u63,u64,u65,u66,u67,u68,u69,u70],[]⟩ w:=by
 conv=>arg 2;whnf
 have HQ0:=hQ.out
 refine wp_region_noPanic ?_
 refine wp_region_held_drew (S:=(fun w'=>w'.cell? ⟨ab,0,none⟩ = some (.string nm) ∧ w'.cell? ⟨ab,1,none⟩ = some (.string vl) ∧ SInv w')) (by kernel_rfl) (HC.out _ hS) (fun hHeld=>?_)
 refine wpAnyH_take (i:=0) (oi:=⟨some 44,_,_,_,_,_⟩) (v:=?_) rfl (by kernel_rfl) (by kernel_rfl) (by kernel_rfl) (fun _ _ _ h=>h) (Or.inl ⟨by kernel_rfl,?_⟩) (by assumption) ?_
 rotate_left
 ·intro w hSw;(try dsimp only at hSw);go_simp;try with_reducible rfl
 try simp only [Act.put,List.setIfInBounds_toArray,List.set_cons_zero,List.set_cons_succ]
 refine wpAnyH_take (i:=1) (oi:=⟨some 45,_,_,_,_,_⟩) (v:=?_) rfl (by kernel_rfl) (by kernel_rfl) (by kernel_rfl) (fun _ _ _ h=>h) (Or.inl ⟨by kernel_rfl,?_⟩) (by assumption) ?_
 rotate_left
 ·intro w hSw;(try dsimp only at hSw);go_simp;try with_reducible rfl
 try simp only [Act.put,List.setIfInBounds_toArray,List.set_cons_zero,List.set_cons_succ]
 refine wpAnyH_ready (rs:=[2]) (by kernel_rfl) (by simp) ?_
 refine AllReadyH.cons rfl (fun K hK=>?_) AllReadyH.nil
 go_simp
 (go_at_call 88;(with_reducible refine (HNK.out _ (by first | exact hHeld.2.2)).mono ?_);rintro e w2 ⟨rfl,hs2⟩)
 refine hK.out _ _ (HC.out _ hs2) (fun hHeld2=>?_)
 clear hK K
 try simp only [Act.put,List.setIfInBounds_toArray,List.set_cons_zero,List.set_cons_succ]
 refine wpAnyH_take (i:=3) (oi:=⟨some 47,_,_,_,_,_⟩) (v:=?_) rfl (by kernel_rfl) (by kernel_rfl) (by kernel_rfl) (fun _ _ _ h=>h) (Or.inl ⟨by kernel_rfl,?_⟩) (by assumption) ?_
 rotate_left
 ·intro w hSw;(try dsimp only at hSw);go_simp;try with_reducible rfl
 try simp only [Act.put,List.setIfInBounds_toArray,List.set_cons_zero,List.set_cons_succ]
 refine wpAnyH_take (i:=4) (oi:=⟨some 48,_,_,_,_,_⟩) (v:=?_) rfl (by kernel_rfl) (by kernel_rfl) (by kernel_rfl) (fun _ _ _ h=>h) (Or.inl ⟨by kernel_rfl,?_⟩) (by assumption) ?_
 rotate_left
 ·intro w hSw;(try dsimp only at hSw);go_simp;try with_reducible rfl
 try simp only [Act.put,List.setIfInBounds_toArray,List.set_cons_zero,List.set_cons_succ]
 refine wpAnyH_skips (fuel:=17) (by kernel_rfl) (fun _ _ _ _ h=>h) (by assumption) [5,6,7,8] [some 49,some 50,some 51,some 52] 4 _ _ rfl (by kernel_rfl) ?_
 simp only [listedAfter,putU,Act.put,List.setIfInBounds_toArray,List.set_cons_zero,List.set_cons_succ]
 refine wpAnyH_take (i:=9) (oi:=⟨some 53,_,_,_,_,_⟩) (v:=?_) rfl (by kernel_rfl) (by kernel_rfl) (by kernel_rfl) (fun _ _ _ h=>h) (Or.inl ⟨by kernel_rfl,?_⟩) (by assumption) ?_
 rotate_left
 ·intro w hSw;(try dsimp only at hSw);go_simp;try with_reducible rfl
 try simp only [Act.put,List.setIfInBounds_toArray,List.set_cons_zero,List.set_cons_succ]
 refine wpAnyH_take (i:=10) (oi:=⟨some 54,_,_,_,_,_⟩) (v:=?_) rfl (by kernel_rfl) (by kernel_rfl) (by kernel_rfl) (fun _ _ _ h=>h) (Or.inl ⟨by kernel_rfl,?_⟩) (by assumption) ?_
 rotate_left
 ·intro w hSw;(try dsimp only at hSw);go_simp;try with_reducible rfl
 try simp only [Act.put,List.setIfInBounds_toArray,List.set_cons_zero,List.set_cons_succ]
 refine wpAnyH_skips (fuel:=1) (by kernel_rfl) (fun _ _ _ _ h=>h) (by assumption) [11,12,13,14,15,16,17,18,19,20,21,22,23,24] [some 55,some 56,some 57,some 58,some 59,some 60,some 61,some 62,some 63,some 64,some 65,some 66,some 67,some 68] 14 _ _ rfl (by kernel_rfl) ?_
 simp only [listedAfter,putU,Act.put,List.setIfInBounds_toArray,List.set_cons_zero,List.set_cons_succ]
 refine wpAnyH_take (i:=25) (oi:=⟨some 69,_,_,_,_,_⟩) (v:=?_) rfl (by kernel_rfl) (by kernel_rfl) (by kernel_rfl) (fun _ _ _ h=>h) (Or.inl ⟨by kernel_rfl,?_⟩) (by assumption) ?_
 rotate_left
 ·intro w hSw;(try dsimp only at hSw);go_simp;try with_reducible rfl
 try simp only [Act.put,List.setIfInBounds_toArray,List.set_cons_zero,List.set_cons_succ]
 refine wpAnyH_done (by kernel_rfl) ?_ _
 exact HQ0 _ hs2
set_option maxRecDepth 1000000 in
set_option maxHeartbeats 4000000 in
theorem opens6_texts (SInv:World → Prop) (eb ab k:Nat) (nm vl:ByteArray) (u0 u1 u2 u4 u7 u8 u9 u10 u11 u12 u13 u14 u15 u16 u17 u18 u19 u20 u21 u22 u23 u24 u25 u26 u27 u28 u29 u30 u31 u32 u33 u34 u35 u36 u37 u38 u39 u40 u41 u42 u43 u44 u45 u46 u47 u48 u49 u50 u51 u52 u53 u54 u55 u56 u57 u58 u59 u60 u61 u62 u63 u64 u65 u66 u67 u68 u69 u70:Value) (w:World)
  (HC:Hid (∀ w',SInv w' → w'.cell? ⟨ab,0,none⟩ = some (.string nm) ∧ w'.cell? ⟨ab,1,none⟩ = some (.string vl) ∧ SInv w'))
  (HNK:Hid (∀ w',SInv w' → Calls Tryz.prog 88 #[.string nm] w' fun e w''=>e = .returned (.bool true) ∧ SInv w''))
  (HTK:Hid (∀ w',SInv w' → Calls Tryz.prog 78 #[.string vl] w' fun e w''=>e = .returned (.bool false) ∧ SInv w''))
  (hS:SInv w.drew) (Q:Exit → Act → World → Prop) (hQ:Hid (∀ w',SInv w' → Q .normal ⟨#[u0,u1,u2,.pointer (some ⟨eb,0,none⟩),u4,.int .i64 k,.pointer (some ⟨ab,0,none⟩),u7,u8,u9,u10,u11,u12,u13,u14,u15,u16,u17,u18,u19,u20,u21,u22,u23,u24,u25,u26,u27,u28,u29,u30,u31,u32,u33,u34,u35,u36,u37,u38,u39,u40,u41,u42,u43,.pointer (some ⟨ab,0,none⟩),.string nm,.bool true,.bool false,.bool false,.pointer (some ⟨ab,1,none⟩),.string vl,.bool false,.bool true,.bool true,.bool true,undef,undef,undef,undef,undef,undef,undef,undef,undef,undef,undef,undef,undef,undef,.bool true,u70],[]⟩ w')) :
  Code.wp Tryz.prog opens6 Q ⟨#[u0,u1,u2,.pointer (some ⟨eb,0,none⟩),u4,.int .i64 k,.pointer (some ⟨ab,0,none⟩),u7,u8,u9,u10,u11,u12,u13,u14,u15,u16,u17,u18,u19,u20,u21,u22,u23,u24,u25,u26,u27,u28,u29,u30,u31,u32,u33,u34,u35,u36,u37,u38,u39,u40,u41,u42,u43,u44,u45,u46,u47,u48,u49,u50,u51,u52,u53,u54,u55,u56,u57,u58,u59,u60,u61,u62,u63,u64,u65,u66,u67,u68,u69,u70],[]⟩ w:=by
 conv=>arg 2;whnf
 have HQ0:=hQ.out
 refine wp_region_noPanic ?_
 refine wp_region_held_drew (S:=(fun w'=>w'.cell? ⟨ab,0,none⟩ = some (.string nm) ∧ w'.cell? ⟨ab,1,none⟩ = some (.string vl) ∧ SInv w')) (by kernel_rfl) (HC.out _ hS) (fun hHeld=>?_)
 refine wpAnyH_take (i:=0) (oi:=⟨some 44,_,_,_,_,_⟩) (v:=?_) rfl (by kernel_rfl) (by kernel_rfl) (by kernel_rfl) (fun _ _ _ h=>h) (Or.inl ⟨by kernel_rfl,?_⟩) (by assumption) ?_
 rotate_left
 ·intro w hSw;(try dsimp only at hSw);go_simp;try with_reducible rfl
 try simp only [Act.put,List.setIfInBounds_toArray,List.set_cons_zero,List.set_cons_succ]
 refine wpAnyH_take (i:=1) (oi:=⟨some 45,_,_,_,_,_⟩) (v:=?_) rfl (by kernel_rfl) (by kernel_rfl) (by kernel_rfl) (fun _ _ _ h=>h) (Or.inl ⟨by kernel_rfl,?_⟩) (by assumption) ?_
 rotate_left
 ·intro w hSw;(try dsimp only at hSw);go_simp;try with_reducible rfl
 try simp only [Act.put,List.setIfInBounds_toArray,List.set_cons_zero,List.set_cons_succ]
 refine wpAnyH_ready (rs:=[2]) (by kernel_rfl) (by simp) ?_
 refine AllReadyH.cons rfl (fun K hK=>?_) AllReadyH.nil
 go_simp
 (go_at_call 88;(with_reducible refine (HNK.out _ (by first | exact hHeld.2.2)).mono ?_);rintro e w2 ⟨rfl,hs2⟩)
 refine hK.out _ _ (HC.out _ hs2) (fun hHeld2=>?_)
 clear hK K
 try simp only [Act.put,List.setIfInBounds_toArray,List.set_cons_zero,List.set_cons_succ]
 refine wpAnyH_take (i:=3) (oi:=⟨some 47,_,_,_,_,_⟩) (v:=?_) rfl (by kernel_rfl) (by kernel_rfl) (by kernel_rfl) (fun _ _ _ h=>h) (Or.inl ⟨by kernel_rfl,?_⟩) (by assumption) ?_
 rotate_left
 ·intro w hSw;(try dsimp only at hSw);go_simp;try with_reducible rfl
 try simp only [Act.put,List.setIfInBounds_toArray,List.set_cons_zero,List.set_cons_succ]
 refine wpAnyH_take (i:=4) (oi:=⟨some 48,_,_,_,_,_⟩) (v:=?_) rfl (by kernel_rfl) (by kernel_rfl) (by kernel_rfl) (fun _ _ _ h=>h) (Or.inl ⟨by kernel_rfl,?_⟩) (by assumption) ?_
 rotate_left
 ·intro w hSw;(try dsimp only at hSw);go_simp;try with_reducible rfl
 try simp only [Act.put,List.setIfInBounds_toArray,List.set_cons_zero,List.set_cons_succ]
 refine wpAnyH_take (i:=5) (oi:=⟨some 49,_,_,_,_,_⟩) (v:=?_) rfl (by kernel_rfl) (by kernel_rfl) (by kernel_rfl) (fun _ _ _ h=>h) (Or.inl ⟨by kernel_rfl,?_⟩) (by assumption) ?_
 rotate_left
 ·intro w hSw;(try dsimp only at hSw);go_simp;try with_reducible rfl
 try simp only [Act.put,List.setIfInBounds_toArray,List.set_cons_zero,List.set_cons_succ]
 refine wpAnyH_take (i:=6) (oi:=⟨some 50,_,_,_,_,_⟩) (v:=?_) rfl (by kernel_rfl) (by kernel_rfl) (by kernel_rfl) (fun _ _ _ h=>h) (Or.inl ⟨by kernel_rfl,?_⟩) (by assumption) ?_
 rotate_left
 ·intro w hSw;(try dsimp only at hSw);go_simp;try with_reducible rfl
 try simp only [Act.put,List.setIfInBounds_toArray,List.set_cons_zero,List.set_cons_succ]
 refine wpAnyH_ready (rs:=[7]) (by kernel_rfl) (by simp) ?_
 refine AllReadyH.cons rfl (fun K hK=>?_) AllReadyH.nil
 go_simp
 (go_at_call 78;(with_reducible refine (HTK.out _ (by first | exact hHeld2.2.2)).mono ?_);rintro e w7 ⟨rfl,hs7⟩)
 refine hK.out _ _ (HC.out _ hs7) (fun hHeld7=>?_)
 clear hK K
 try simp only [Act.put,List.setIfInBounds_toArray,List.set_cons_zero,List.set_cons_succ]
 refine wpAnyH_take (i:=8) (oi:=⟨some 52,_,_,_,_,_⟩) (v:=?_) rfl (by kernel_rfl) (by kernel_rfl) (by kernel_rfl) (fun _ _ _ h=>h) (Or.inl ⟨by kernel_rfl,?_⟩) (by assumption) ?_
 rotate_left
 ·intro w hSw;(try dsimp only at hSw);go_simp;try with_reducible rfl
 try simp only [Act.put,List.setIfInBounds_toArray,List.set_cons_zero,List.set_cons_succ]
 refine wpAnyH_take (i:=9) (oi:=⟨some 53,_,_,_,_,_⟩) (v:=?_) rfl (by kernel_rfl) (by kernel_rfl) (by kernel_rfl) (fun _ _ _ h=>h) (Or.inl ⟨by kernel_rfl,?_⟩) (by assumption) ?_
 rotate_left
 ·intro w hSw;(try dsimp only at hSw);go_simp;try with_reducible rfl
 try simp only [Act.put,List.setIfInBounds_toArray,List.set_cons_zero,List.set_cons_succ]
 refine wpAnyH_take (i:=10) (oi:=⟨some 54,_,_,_,_,_⟩) (v:=?_) rfl (by kernel_rfl) (by kernel_rfl) (by kernel_rfl) (fun _ _ _ h=>h) (Or.inl ⟨by kernel_rfl,?_⟩) (by assumption) ?_
 rotate_left
 ·intro w hSw;(try dsimp only at hSw);go_simp;try with_reducible rfl
 try simp only [Act.put,List.setIfInBounds_toArray,List.set_cons_zero,List.set_cons_succ]
 refine wpAnyH_skips (fuel:=1) (by kernel_rfl) (fun _ _ _ _ h=>h) (by assumption) [11,12,13,14,15,16,17,18,19,20,21,22,23,24] [some 55,some 56,some 57,some 58,some 59,some 60,some 61,some 62,some 63,some 64,some 65,some 66,some 67,some 68] 14 _ _ rfl (by kernel_rfl) ?_
 simp only [listedAfter,putU,Act.put,List.setIfInBounds_toArray,List.set_cons_zero,List.set_cons_succ]
 refine wpAnyH_take (i:=25) (oi:=⟨some 69,_,_,_,_,_⟩) (v:=?_) rfl (by kernel_rfl) (by kernel_rfl) (by kernel_rfl) (fun _ _ _ h=>h) (Or.inl ⟨by kernel_rfl,?_⟩) (by assumption) ?_
 rotate_left
 ·intro w hSw;(try dsimp only at hSw);go_simp;try with_reducible rfl
 try simp only [Act.put,List.setIfInBounds_toArray,List.set_cons_zero,List.set_cons_succ]
 refine wpAnyH_done (by kernel_rfl) ?_ _
 exact HQ0 _ hs7
end Go.Proofs.YtgjokdngbocehaaGreatDoor
namespace Go.Proofs.YtgjokdngbocehaaGreatDoor
open Go.RowKit
set_option maxRecDepth 1000000 in
set_option maxHeartbeats 4000000 in
theorem opens6_next (SInv:World → Prop) (eb ab b o m c k j:Nat) (hj:k = j + 1) (hkm:k < m) (hm:m ≤ 1048576) (nm vl q:ByteArray) (T:Bool) (hT:(!(Op.bytesLess q.toList nm.toList)) = T) (u0 u1 u2 u4 u7 u8 u9 u10 u11 u12 u13 u14 u15 u16 u17 u18 u19 u20 u21 u22 u23 u24 u25 u26 u27 u28 u29 u30 u31 u32 u33 u34 u35 u36 u37 u38 u39 u40 u41 u42 u43 u44 u45 u46 u47 u48 u49 u50 u51 u52 u53 u54 u55 u56 u57 u58 u59 u60 u61 u62 u63 u64 u65 u66 u67 u68 u69 u70:Value) (w:World)
  (HC:Hid (∀ w',SInv w' → w'.cell? ⟨ab,0,none⟩ = some (.string nm) ∧ w'.cell? ⟨ab,1,none⟩ = some (.string vl) ∧ w'.cell? ⟨eb,4,none⟩ = some (.slice (some ⟨b,o,none⟩) m c) ∧ w'.cell? ⟨b,o + j * 2,none⟩ = some (.string q) ∧ SInv w'))
  (HNK:Hid (∀ w',SInv w' → Calls Tryz.prog 88 #[.string nm] w' fun e w''=>e = .returned (.bool true) ∧ SInv w''))
  (HTK:Hid (∀ w',SInv w' → Calls Tryz.prog 78 #[.string vl] w' fun e w''=>e = .returned (.bool true) ∧ SInv w''))
  (hS:SInv w.drew) (Q:Exit → Act → World → Prop) (hQ:Hid (∀ w',SInv w' → Q .normal ⟨#[u0,u1,u2,.pointer (some ⟨eb,0,none⟩),u4,.int .i64 k,.pointer (some ⟨ab,0,none⟩),u7,u8,u9,u10,u11,u12,u13,u14,u15,u16,u17,u18,u19,u20,u21,u22,u23,u24,u25,u26,u27,u28,u29,u30,u31,u32,u33,u34,u35,u36,u37,u38,u39,u40,u41,u42,u43,.pointer (some ⟨ab,0,none⟩),.string nm,.bool true,.bool false,.bool false,.pointer (some ⟨ab,1,none⟩),.string vl,.bool true,.bool false,.bool false,.bool false,.int .i64 k,.bool true,.bool true,.pointer (some ⟨eb,4,none⟩),.slice (some ⟨b,o,none⟩) m c,.int .i64 k,.int .i64 j,.pointer (some ⟨b,o + j * 2,none⟩),.pointer (some ⟨b,o + j * 2,none⟩),.string q,.pointer (some ⟨ab,0,none⟩),.string nm,.bool T,.bool T,.bool T,u70],[]⟩ w')) :
  Code.wp Tryz.prog opens6 Q ⟨#[u0,u1,u2,.pointer (some ⟨eb,0,none⟩),u4,.int .i64 k,.pointer (some ⟨ab,0,none⟩),u7,u8,u9,u10,u11,u12,u13,u14,u15,u16,u17,u18,u19,u20,u21,u22,u23,u24,u25,u26,u27,u28,u29,u30,u31,u32,u33,u34,u35,u36,u37,u38,u39,u40,u41,u42,u43,u44,u45,u46,u47,u48,u49,u50,u51,u52,u53,u54,u55,u56,u57,u58,u59,u60,u61,u62,u63,u64,u65,u66,u67,u68,u69,u70],[]⟩ w:=by
 conv=>arg 2;whnf
 have HQ0:=hQ.out
 have HQ1:=Lib.hid HQ0
 clear HQ0
 have hk1:0 < k:=by omega
 have ew:IntKind.i64.wrap ((k:Int) - 1) = (j:Int):=by rw [IntWalk.i64_in _ (by omega)];omega
 have i1:(0:Int) ≤ (j:Int):=by omega
 have i2:(j:Int) < (m:Int):=by omega
 clear hQ hj
 go_region_held3 (fun w'=>w'.cell? ⟨ab,0,none⟩ = some (.string nm) ∧ w'.cell? ⟨ab,1,none⟩ = some (.string vl) ∧ w'.cell? ⟨eb,4,none⟩ = some (.slice (some ⟨b,o,none⟩) m c) ∧ w'.cell? ⟨b,o + j * 2,none⟩ = some (.string q) ∧ SInv w') (first | exact HC.out _ ‹_› | go_keep) (first | (go_at_call 88;(with_reducible refine (HNK.out _ (by assumption)).mono ?_);rintro e w5 ⟨rfl,hs5⟩) | (go_at_call 78;(with_reducible refine (HTK.out _ (by assumption)).mono ?_);rintro e w6 ⟨rfl,hs6⟩))
 subst hT
 exact HQ1.out _ (by assumption)
end Go.Proofs.YtgjokdngbocehaaGreatDoor
namespace Go.Proofs.YtgjokdngbocehaaGreatDoor
open Go.RowKit
theorem strL_toList (l:List UInt8):(strL l).toList = l:=strU_toList l
theorem strL_isE (l:List UInt8):(strL l).toList.isEmpty = l.isEmpty:=strU_empty l
set_option maxRecDepth 1000000 in
set_option maxHeartbeats 4000000 in
theorem opens_any (cb:Nat) (oa:Option Addr) (on oc:Nat) (nx:Int) (ek en ed efr ett:Int) (ename etext:List UInt8) (A:Option Addr) (m c:Nat) (ats:List (List UInt8 × List UInt8)) (w:World)
  (h0:w.cell? ⟨cb,0,none⟩ = some (.slice oa on oc)) (h1:w.cell? ⟨cb,1,none⟩ = some (.int .i64 nx)) (hcb:cb < w.heap.size) (hA:AttrsAt w A m ats) (hnl:ename.length ≤ 1048576) (hl:∀ p ∈ ats,p.1.length ≤ 1048576 ∧ p.2.length ≤ 1048576) (hm:m ≤ 1048576) (hon:on ≤ 1048576)
  (hR:RangesAt w 2) (hT:Lib.Utf8Tabs 0 1 w) :
  Calls Tryz.prog 77 #[.pointer (some ⟨cb,0,none⟩),.agg (evC ek en ed ename A m c etext efr ett)] w fun e w'=>e = .returned (.bool (decide (en = nx ∧ ed = (on:Int) + 1 ∧ etext = []) && nameB ename && attrsB none ats)) ∧ Below w.heap.size w w':=by
 have HNM:Hid (∀ (l:List UInt8) (W:World),l.length ≤ 1048576 → Below w.heap.size w W → Calls Tryz.prog 88 #[.string (strL l)] W fun e w'=>e = .returned (.bool (nameB l)) ∧ Below W.heap.size W w'):=Lib.hid fun l W h hW=>Name_any l W (by omega) (hR.below hW) (Utf8Tabs_below hT hW)
 have HTX:Hid (∀ (l:List UInt8) (W:World),l.length ≤ 1048576 → Below w.heap.size w W → Calls Tryz.prog 78 #[.string (strL l)] W fun e w'=>e = .returned (.bool (textsB l)) ∧ Below W.heap.size W w'):=Lib.hid fun l W h hW=>Texts_any l W (by omega) (hR.below hW) (Utf8Tabs_below hT hW)
 have HN:Hid (m = ats.length):=Lib.hid hA.1
 have HA:=Lib.hid hA.2
 have HL:=Lib.hid hl
 have hte:=strL_isE etext
 obtain ⟨T,hT2⟩:∃ T,(decide (en = nx ∧ ed = (on:Int) + 1 ∧ etext = []) && nameB ename && attrsB none ats) = T:=⟨_,rfl⟩
 rw [hT2]
 have HT2:=Lib.hid hT2
 clear hT2 hA hl hR hT
 unfold evC
 by_cases q1:en = nx
 ·by_cases q2:ed = (on:Int) + 1
  ·by_cases q3:etext = []
   ·have hse:etext.isEmpty = true:=by rw [q3];rfl
    rw [hse] at hte
    have HT3:Hid ((nameB ename && attrsB none ats) = T):=Lib.hid (by rw [← HT2.out,decide_eq_true ⟨q1,q2,q3⟩,Bool.true_and])
    subst q1 q2
    clear q3 hse HT2
    generalize strL etext = X at *
    have ew:IntKind.i64.wrap ((on:Int) + 1) = (on:Int) + 1:=IntWalk.i64_in _ (by omega)
    have hn1:=heap_alloc_new w (.cells #[.int .i64 ek,.int .i64 en,.int .i64 ((on:Int) + 1),.string (strL ename),.slice A m c,.string X,.int .i64 efr,.int .i64 ett] 47)
    have hbw:=(Below.refl w.heap.size w).alloc (Nat.le_refl _) (.cells #[.int .i64 ek,.int .i64 en,.int .i64 ((on:Int) + 1),.string (strL ename),.slice A m c,.string X,.int .i64 efr,.int .i64 ett] 47)
    have hs1:w.heap.size < (w.alloc (.cells #[.int .i64 ek,.int .i64 en,.int .i64 ((on:Int) + 1),.string (strL ename),.slice A m c,.string X,.int .i64 efr,.int .i64 ett] 47)).heap.size:=by simp
    have HN1:=Lib.hid hn1
    have HBW:=Lib.hid hbw
    have HS1:=Lib.hid hs1
    have HCB:=Lib.hid hcb
    have H0:=Lib.hid h0
    have H1:=Lib.hid h1
    clear hn1 hbw hs1 hcb h0 h1
    go_enter Tryz.func77,Tryz.ntmps77
    go_wp2_with fail
    obtain ⟨eb,heb⟩:∃ eb,eb = w.heap.size:=⟨_,rfl⟩
    rw [← heb] at HN1 HS1 ⊢
    generalize w.alloc (.cells #[.int .i64 ek,.int .i64 en,.int .i64 ((on:Int) + 1),.string (strL ename),.slice A m c,.string X,.int .i64 efr,.int .i64 ett] 47) = W1 at *
    have hS:∀ w',Below W1.heap.size W1 w' → w'.cell? ⟨cb,0,none⟩ = some (.slice oa on oc) ∧ w'.cell? ⟨cb,1,none⟩ = some (.int .i64 en) ∧ w'.cell? ⟨eb,1,none⟩ = some (.int .i64 en) ∧ w'.cell? ⟨eb,2,none⟩ = some (.int .i64 ((on:Int) + 1)) ∧ w'.cell? ⟨eb,3,none⟩ = some (.string (strL ename)) ∧ w'.cell? ⟨eb,4,none⟩ = some (.slice A m c) ∧ w'.cell? ⟨eb,5,none⟩ = some (.string X) ∧ Below W1.heap.size W1 w':=fun w' hb=>by
     have e:=(hb.block eb HS1.out).trans HN1.out
     have hb2:Below w.heap.size w w':=HBW.out.trans (hb.mono HBW.out.size)
     exact ⟨(hb2.cell (p:=⟨cb,0,none⟩) HCB.out).trans H0.out,(hb2.cell (p:=⟨cb,1,none⟩) HCB.out).trans H1.out,by rw [cell_heap e];rfl,by rw [cell_heap e];rfl,by rw [cell_heap e];rfl,by rw [cell_heap e];rfl,by rw [cell_heap e];rfl,hb⟩
    have HS:=Lib.hid hS
    have hS0:Below W1.heap.size W1 W1.drew:=(Below.refl _ _).drew
    have HNK:Hid (∀ w',Below W1.heap.size W1 w' → Calls Tryz.prog 88 #[.string (strL ename)] w' fun e w''=>e = .returned (.bool (nameB ename)) ∧ Below W1.heap.size W1 w''):=Lib.hid fun w' hb=>(HNM.out ename w' hnl (HBW.out.trans (hb.mono HBW.out.size))).mono fun e w'' h=>⟨h.1,hb.trans (h.2.mono hb.size)⟩
    clear hS H0 H1 HCB HN1 heb
    go_region_held3 (fun w'=>w'.cell? ⟨cb,0,none⟩ = some (.slice oa on oc) ∧ w'.cell? ⟨cb,1,none⟩ = some (.int .i64 en) ∧ w'.cell? ⟨eb,1,none⟩ = some (.int .i64 en) ∧ w'.cell? ⟨eb,2,none⟩ = some (.int .i64 ((on:Int) + 1)) ∧ w'.cell? ⟨eb,3,none⟩ = some (.string (strL ename)) ∧ w'.cell? ⟨eb,4,none⟩ = some (.slice A m c) ∧ w'.cell? ⟨eb,5,none⟩ = some (.string X) ∧ Below W1.heap.size W1 w') (first | exact HS.out _ ‹_› | go_keep) (first | (go_at_call 88;(with_reducible refine (HNK.out _ ‹_›).mono ?_);rintro e w3 ⟨rfl,hb3⟩))
    cases hnb:nameB ename with
    | false =>
     have HE:Hid (T = false):=Lib.hid (by rw [← HT3.out,hnb];rfl)
     clear hnb HT3
     go_wp2_with fail
     go_ret
     exact ⟨ret_bool (by rw [HE.out]),HBW.out.trans (hb3.mono HBW.out.size)⟩
    | true =>
     have HT4:Hid (attrsB none ats = T):=Lib.hid (by rw [← HT3.out,hnb,Bool.true_and])
     clear hnb HT3 HNK
     obtain ⟨_,_,_,_,_,x4,_,_⟩:=HS.out w3 hb3
     go_wp2_with fail
     clear x4
     go_loopw [39] (fun iv wr=>∃ k:Nat,iv = .int .i64 k ∧ k ≤ m ∧ Below W1.heap.size W1 wr ∧ Hid (attrsB (prevN ats k) (ats.drop k) = T)) (fun iv _=>m - (intOf iv).toNat)
     case atStart=>exact ⟨0,rfl,Nat.zero_le _,hb3,HT4⟩
     case round =>
      obtain ⟨k,rfl,hk,hbr,hr⟩:=hrel
      by_cases hkn:k < m
      ·have hkl:k < ats.length:=by rw [← HN.out];exact hkn
       obtain ⟨b,o,rfl,hb,c0,c1⟩:=HA.out k hkl
       have hbr2:Below w.heap.size w wr:=HBW.out.trans (hbr.mono HBW.out.size)
       have e0:=(hbr2.cell (p:=⟨b,o + k * 2,none⟩) hb).trans c0
       have e1:=(hbr2.cell (p:=⟨b,o + k * 2 + 1,none⟩) hb).trans c1
       have hd:=hr.out
       have hlk:=HL.out _ (List.getElem_mem hkl)
       rw [List.drop_eq_getElem_cons hkl,attrsB_cons] at hd
       have hpk:prevN ats (k + 1) = some (ats[k]).1:=by
        unfold prevN
        rw [if_neg (by omega),Nat.add_sub_cancel,List.getElem?_eq_getElem hkl]
        rfl
       have HPK:=Lib.hid hpk
       have HPV:Hid (k = 0 ∨ ∃ (j:Nat) (q:List UInt8),k = j + 1 ∧ prevN ats k = some q ∧ ∀ W,Below w.heap.size w W → W.cell? ⟨b,o + j * 2,none⟩ = some (.string (strL q))):=Lib.hid (by
        by_cases h0:k = 0
        ·exact .inl h0
        ·right
         have h:k - 1 < ats.length:=by omega
         refine ⟨k - 1,(ats[k - 1]).1,by omega,?_,fun W hW=>?_⟩
         ·unfold prevN
          rw [if_neg h0,List.getElem?_eq_getElem h]
          rfl
         ·obtain ⟨b',o',he,_,c0',_⟩:=HA.out (k - 1) h
          injection he with he
          injection he with he1 he2
          subst he1 he2
          exact (hW.cell (p:=⟨b,o + (k - 1) * 2,none⟩) hb).trans c0')
       generalize ats[k] = pp at *
       obtain ⟨nm,vl⟩:=pp
       simp only at hd hlk e0 e1 hpk HPK
       obtain ⟨hnl2,hvl2⟩:=hlk
       have HBR:=Lib.hid hbr
       have HBR2:=Lib.hid hbr2
       have hws:=hbr2.size
       have hws1:=hbr.size
       clear hpk c0 c1 hr hbr hbr2
       have hn2:=heap_alloc_new wr (.cells #[.string (strL nm),.string (strL vl)] 158)
       have hs2:wr.heap.size < (wr.alloc (.cells #[.string (strL nm),.string (strL vl)] 158)).heap.size:=by simp
       have hb2:Below W1.heap.size W1 (wr.alloc (.cells #[.string (strL nm),.string (strL vl)] 158)):=HBR.out.alloc hws1 _
       have HN2:=Lib.hid hn2
       have HS2':=Lib.hid hs2
       have HB2:=Lib.hid hb2
       clear hn2 hs2 hb2
       go_wp2_with fail
       clear e0 e1
       obtain ⟨ab,hab⟩:∃ ab,ab = wr.heap.size:=⟨_,rfl⟩
       rw [← hab] at HN2 HS2' ⊢
       generalize wr.alloc (.cells #[.string (strL nm),.string (strL vl)] 158) = W2 at *
       have hS2:∀ w',Below W2.heap.size W2 w' → w'.cell? ⟨ab,0,none⟩ = some (.string (strL nm)) ∧ w'.cell? ⟨ab,1,none⟩ = some (.string (strL vl)) ∧ w'.cell? ⟨eb,4,none⟩ = some (.slice (some ⟨b,o,none⟩) m c) ∧ Below W2.heap.size W2 w':=fun w' hb=>by
        have e:=(hb.block ab HS2'.out).trans HN2.out
        have hbb:Below W1.heap.size W1 w':=HB2.out.trans (hb.mono HB2.out.size)
        exact ⟨by rw [cell_heap e];rfl,by rw [cell_heap e];rfl,(HS.out w' hbb).2.2.2.2.2.1,hb⟩
       have HS2:=Lib.hid hS2
       have hS20:Below W2.heap.size W2 W2.drew:=(Below.refl _ _).drew
       have HW2:Hid (∀ w',Below W2.heap.size W2 w' → Below w.heap.size w w'):=Lib.hid fun w' hb=>HBW.out.trans ((HB2.out.trans (hb.mono HB2.out.size)).mono HBW.out.size)
       have HW1:Hid (∀ w',Below W2.heap.size W2 w' → Below W1.heap.size W1 w'):=Lib.hid fun w' hb=>HB2.out.trans (hb.mono HB2.out.size)
       have HNK2:Hid (∀ w',Below W2.heap.size W2 w' → Calls Tryz.prog 88 #[.string (strL nm)] w' fun e w''=>e = .returned (.bool (nameB nm)) ∧ Below W2.heap.size W2 w''):=Lib.hid fun w' hb=>(HNM.out nm w' hnl2 (HW2.out _ hb)).mono fun e w'' h=>⟨h.1,hb.trans (h.2.mono hb.size)⟩
       have HTK2:Hid (∀ w',Below W2.heap.size W2 w' → Calls Tryz.prog 78 #[.string (strL vl)] w' fun e w''=>e = .returned (.bool (textsB vl)) ∧ Below W2.heap.size W2 w''):=Lib.hid fun w' hb=>(HTX.out vl w' hvl2 (HW2.out _ hb)).mono fun e w'' h=>⟨h.1,hb.trans (h.2.mono hb.size)⟩
       clear hS2 HN2 hab hws hws1 hnl2 hvl2 HBR HBR2
       cases hn3:nameB nm with
       | false =>
        rw [hn3] at HNK2
        have HE:Hid (T = false):=Lib.hid (by rw [← hd,hn3];rfl)
        clear hd hn3 HPV HTK2
        refine opens6_name (Below W2.heap.size W2) eb ab k (strL nm) (strL vl) _ _ _ _ _ _ _ _ _ _ _ _ _ _ _ _ _ _ _ _ _ _ _ _ _ _ _ _ _ _ _ _ _ _ _ _ _ _ _ _ _ _ _ _ _ _ _ _ _ _ _ _ _ _ _ _ _ _ _ _ _ _ _ _ _ _ _ _ _ (Lib.hid fun w' hb=>⟨(HS2.out w' hb).1,(HS2.out w' hb).2.1,hb⟩) HNK2 hS20 _ (Lib.hid fun w5 hb5=>?_)
        go_wp2_with fail
        go_ret
        exact ⟨ret_bool (by rw [HE.out]),HW2.out _ (by assumption)⟩
       | true =>
        rw [hn3] at HNK2
        cases ht3:textsB vl with
        | false =>
         rw [ht3] at HTK2
         have HE:Hid (T = false):=Lib.hid (by rw [← hd,hn3,ht3];rfl)
         clear hd hn3 ht3 HPV
         refine opens6_texts (Below W2.heap.size W2) eb ab k (strL nm) (strL vl) _ _ _ _ _ _ _ _ _ _ _ _ _ _ _ _ _ _ _ _ _ _ _ _ _ _ _ _ _ _ _ _ _ _ _ _ _ _ _ _ _ _ _ _ _ _ _ _ _ _ _ _ _ _ _ _ _ _ _ _ _ _ _ _ _ _ _ _ _ (Lib.hid fun w' hb=>⟨(HS2.out w' hb).1,(HS2.out w' hb).2.1,hb⟩) HNK2 HTK2 hS20 _ (Lib.hid fun w5 hb5=>?_)
         go_wp2_with fail
         go_ret
         exact ⟨ret_bool (by rw [HE.out]),HW2.out _ (by assumption)⟩
        | true =>
         rw [ht3] at HTK2
         rw [hn3,ht3,Bool.true_and,Bool.true_and] at hd
         rcases HPV.out with hk0 | ⟨j,q,hj,hq,hcell⟩
         ·have HD2:Hid (attrsB (some nm) (ats.drop (k + 1)) = T):=Lib.hid (by
           rw [show prevN ats k = none by unfold prevN;rw [if_pos hk0]] at hd
           simpa using hd)
          subst hk0
          clear hd hn3 ht3 HPV
          rw [show ((0:Nat):Int) = 0 from rfl]
          refine opens6_zero (Below W2.heap.size W2) eb ab (strL nm) (strL vl) _ _ _ _ _ _ _ _ _ _ _ _ _ _ _ _ _ _ _ _ _ _ _ _ _ _ _ _ _ _ _ _ _ _ _ _ _ _ _ _ _ _ _ _ _ _ _ _ _ _ _ _ _ _ _ _ _ _ _ _ _ _ _ _ _ _ _ _ _ (Lib.hid fun w' hb=>⟨(HS2.out w' hb).1,(HS2.out w' hb).2.1,hb⟩) HNK2 HTK2 hS20 _ (Lib.hid fun w5 hb5=>?_)
          go_wp2_with fail
          go_roundw
          case rel=>exact ⟨0 + 1,by go_num,by omega,HW1.out _ (by assumption),by rw [HPK.out];exact HD2⟩
          case measure=>simp [intOf];omega
         ·have hjm:k < m:=hkn
          have HCJ:Hid (∀ w',Below W2.heap.size W2 w' → w'.cell? ⟨ab,0,none⟩ = some (.string (strL nm)) ∧ w'.cell? ⟨ab,1,none⟩ = some (.string (strL vl)) ∧ w'.cell? ⟨eb,4,none⟩ = some (.slice (some ⟨b,o,none⟩) m c) ∧ w'.cell? ⟨b,o + j * 2,none⟩ = some (.string (strL q)) ∧ Below W2.heap.size W2 w'):=Lib.hid fun w' hb=>⟨(HS2.out w' hb).1,(HS2.out w' hb).2.1,(HS2.out w' hb).2.2.1,hcell w' (HW2.out w' hb),hb⟩
          rw [hq] at hd
          simp only at hd
          cases hbl:Op.bytesLess q nm with
          | true =>
           have HD2:Hid (attrsB (some nm) (ats.drop (k + 1)) = T):=Lib.hid (by rw [hbl,Bool.true_and] at hd;exact hd)
           have hTB:(!(Op.bytesLess (strL q).toList (strL nm).toList)) = false:=by rw [strL_toList,strL_toList,hbl];rfl
           clear hd hn3 ht3 HPV hcell hbl
           refine opens6_next (Below W2.heap.size W2) eb ab b o m c k j hj hjm hm (strL nm) (strL vl) (strL q) false hTB _ _ _ _ _ _ _ _ _ _ _ _ _ _ _ _ _ _ _ _ _ _ _ _ _ _ _ _ _ _ _ _ _ _ _ _ _ _ _ _ _ _ _ _ _ _ _ _ _ _ _ _ _ _ _ _ _ _ _ _ _ _ _ _ _ _ _ _ _ HCJ HNK2 HTK2 hS20 _ (Lib.hid fun w5 hb5=>?_)
           go_wp2_with fail
           go_roundw
           case rel=>exact ⟨k + 1,by go_num,by omega,HW1.out _ (by assumption),by rw [HPK.out];exact HD2⟩
           case measure=>simp [intOf];omega
          | false =>
           have HE:Hid (T = false):=Lib.hid (by rw [← hd,hbl,Bool.false_and])
           have hTB:(!(Op.bytesLess (strL q).toList (strL nm).toList)) = true:=by rw [strL_toList,strL_toList,hbl];rfl
           clear hd hn3 ht3 HPV hcell hbl
           refine opens6_next (Below W2.heap.size W2) eb ab b o m c k j hj hjm hm (strL nm) (strL vl) (strL q) true hTB _ _ _ _ _ _ _ _ _ _ _ _ _ _ _ _ _ _ _ _ _ _ _ _ _ _ _ _ _ _ _ _ _ _ _ _ _ _ _ _ _ _ _ _ _ _ _ _ _ _ _ _ _ _ _ _ _ _ _ _ _ _ _ _ _ _ _ _ _ HCJ HNK2 HTK2 hS20 _ (Lib.hid fun w5 hb5=>?_)
           go_wp2_with fail
           go_ret
           exact ⟨ret_bool (by rw [HE.out]),HW2.out _ (by assumption)⟩
      ·have hd:=hr.out
       have HE:Hid (T = true):=Lib.hid (by rw [← hd,List.drop_of_length_le (by rw [← HN.out];omega)];rfl)
       have hkn2:m ≤ k:=by omega
       have hfin:Below w.heap.size w wr:=HBW.out.trans (hbr.mono HBW.out.size)
       clear hd hr hkn
       go_wp2_with fail
       go_ret
       exact ⟨ret_bool (by rw [HE.out]),hfin⟩
   ·have HE:Hid (T = false):=Lib.hid (by rw [← HT2.out,decide_eq_false (by simp [q3])];rfl)
    have hse:etext.isEmpty = false:=by cases etext with | nil=>exact absurd rfl q3 | cons _ _=>rfl
    rw [hse] at hte
    subst q1 q2
    clear q3 hse HT2
    generalize strL etext = X at *
    have ew:IntKind.i64.wrap ((on:Int) + 1) = (on:Int) + 1:=IntWalk.i64_in _ (by omega)
    go_enter Tryz.func77,Tryz.ntmps77
    go_wp2_with fail
    go_quiet (fail)
    go_wp2_with fail
    go_ret
    exact ⟨ret_bool (by rw [HE.out]),Below.drewN ((Below.refl w.heap.size w).alloc (Nat.le_refl _) _) _⟩
  ·have HE:Hid (T = false):=Lib.hid (by rw [← HT2.out,decide_eq_false (by simp [q2])];rfl)
   have ew:IntKind.i64.wrap ((on:Int) + 1) = (on:Int) + 1:=IntWalk.i64_in _ (by omega)
   have t2:(ed != (on:Int) + 1) = true:=by simpa using q2
   subst q1
   clear q2 HT2
   go_enter Tryz.func77,Tryz.ntmps77
   go_wp2_with fail
   go_quiet (fail)
   go_wp2_with fail
   go_ret
   exact ⟨ret_bool (by rw [HE.out]),Below.drewN ((Below.refl w.heap.size w).alloc (Nat.le_refl _) _) _⟩
 ·have HE:Hid (T = false):=Lib.hid (by rw [← HT2.out,decide_eq_false (by simp [q1])];rfl)
  have t1:(en != nx) = true:=by simpa using q1
  clear q1 HT2
  go_enter Tryz.func77,Tryz.ntmps77
  go_wp2_with fail
  go_quiet (fail)
  go_wp2_with fail
  go_ret
  exact ⟨ret_bool (by rw [HE.out]),Below.drewN ((Below.refl w.heap.size w).alloc (Nat.le_refl _) _) _⟩
end Go.Proofs.YtgjokdngbocehaaGreatDoor
