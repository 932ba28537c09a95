/-
  unicode/utf8.ValidString: its contract laid at this dump (the shelf's table does not name it).
-/
import Derived.Shelf.Unicode.ValidAny
import Derived.Lib.LaidU8T
import Derived.IntWalk
import Derived.Test.YtgjokdngbocehaaGreatDoorHsA
import Derived.Test.YtgjokdngbocehaaGreatDoorHsC
import Derived.Test.YtgjokdngbocehaaGreatDoorHsE
namespace Go.Proofs.YtgjokdngbocehaaGreatDoor
open Go.RowKit
def validRen:Go.Shelf.Ren:=⟨fun | 196=>106 | 259=>134 | n=>n,fun | 12=>12 | 46=>206 | 53=>240 | 119=>202 | 138=>204 | 139=>205 | n=>n,fun | 3=>0 | 4=>1 | n=>n⟩
theorem laysValid:Go.Proofs.Lays.n196 Tryz.prog validRen where
 mixed:=by kernel_rfl
 f196:=Tryz.func106.trans (congrArg some (by kernel_rfl))
 f259:=Tryz.func134.trans (congrArg some (by kernel_rfl))
 t0:=Tryz.underlying0
 a0:=Tryz.isAgg0
 z0:=Tryz.sizeOf0
 v0:=Tryz.zeroValue0
 t3:=Tryz.underlying3
 a3:=Tryz.isAgg3
 z3:=Tryz.sizeOf3
 v3:=Tryz.zeroValue3
 t4:=Tryz.underlying4
 a4:=Tryz.isAgg4
 z4:=Tryz.sizeOf4
 v4:=Tryz.zeroValue4
 t5:=Tryz.underlying5
 a5:=Tryz.isAgg5
 z5:=Tryz.sizeOf5
 v5:=Tryz.zeroValue5
 t9:=Tryz.underlying9
 a9:=Tryz.isAgg9
 z9:=Tryz.sizeOf9
 v9:=Tryz.zeroValue9
 t12:=Tryz.underlying12
 a12:=Tryz.isAgg12
 z12:=Tryz.sizeOf12
 v12:=Tryz.zeroValue12
 t46:=Tryz.underlying206
 a46:=Tryz.isAgg206
 z46:=Tryz.sizeOf206
 v46:=Tryz.zeroValue206
 t53:=Tryz.underlying240
 a53:=Tryz.isAgg240
 z53:=Tryz.sizeOf240
 v53:=Tryz.zeroValue240
 t119:=Tryz.underlying202
 a119:=Tryz.isAgg202
 z119:=Tryz.sizeOf202
 t138:=Tryz.underlying204
 a138:=Tryz.isAgg204
 z138:=Tryz.sizeOf204
 v138:=Tryz.zeroValue204
 t139:=Tryz.underlying205
 a139:=Tryz.isAgg205
 z139:=Tryz.sizeOf205
 v139:=Tryz.zeroValue205
 g3:=by kernel_rfl
 g4:=by kernel_rfl
theorem Valid_any (s:ByteArray) (w:World) (hs:s.size ≤ 9223372036854775807) (hT:Lib.Utf8Tabs 0 1 w) :
  Calls Tryz.prog 106 #[.string s] w fun e w'=>e = .returned (.bool (Lib.validD s.data.toList)) ∧ Below w.heap.size w w' :=
 Any.utf8_ValidString laysValid s w hs hT
theorem u8types:U8Types Tryz.prog validRen:=U8Types.of196 laysValid
end Go.Proofs.YtgjokdngbocehaaGreatDoor
namespace Go.Proofs.YtgjokdngbocehaaGreatDoor
open Go.RowKit
set_option maxRecDepth 100000 in
set_option maxHeartbeats 1000000 in
theorem Name_any (l:List UInt8) (w:World) (hl:l.length ≤ 1073741824) (hR:RangesAt w 2) (hT:Lib.Utf8Tabs 0 1 w) :
  Calls Tryz.prog 88 #[.string (strU l)] w fun e w'=>e = .returned (.bool (nameB l)) ∧ Below w.heap.size w w':=by
 have HR:=Lib.hid hR
 have HT:=Lib.hid hT
 have HV:Hid (∀ W,Below w.heap.size w W → Calls Tryz.prog 106 #[.string (strU l)] W fun e w'=>e = .returned (.bool (Lib.validD l)) ∧ Below W.heap.size W w'):=Lib.hid fun W hW=>by
  have:=Valid_any (strU l) W (by rw [strU_size];omega) (Utf8Tabs_below HT.out hW)
  rw [strU_data] at this
  exact this
 have HI:Hid (∀ (c r:Nat) W,c < 6 → Below w.heap.size w W → Calls Tryz.prog 105 #[.int .i64 c,.int .i32 r] W fun e w'=>e = .returned (.bool (isR (rng c) r)) ∧ Below W.heap.size W w'):=Lib.hid fun c r W hc hW=>Is_any c hc r W (HR.out.below hW)
 have HD:Hid (∀ pos,decL (l.drop pos) = Utf8.decode (strU l) pos):=Lib.hid (decL_str l)
 have HE:Hid (nameB l = (!l.isEmpty && (clsL 2 l && Lib.validD l))):=Lib.hid rfl
 have hse:=strU_empty l
 have HZ:Hid ((strU l).size = l.length):=Lib.hid (strU_size l)
 clear hR hT HR HT
 generalize Lib.validD l = V at *
 generalize nameB l = T at *
 generalize hS:strU l = S at *
 have HS:=Lib.hid hS
 clear hS
 go_enter Tryz.func88,Tryz.ntmps88
 go_wp2_with fail
 go_loopw [3] (fun cv wr=>∃ pos cc,cv = .int .i64 (cc:Nat) ∧ cc < 6 ∧ (pos = 0 ∨ l.isEmpty = false) ∧ wr.heap[w.heap.size]? = some (.stringIter S pos) ∧ Below w.heap.size w wr ∧ Hid (clsL cc (l.drop pos) = clsL 2 l)) (fun _ wr=>S.size - wr.iterPos w.heap.size)
 case atStart=>exact ⟨0,2,rfl,by decide,.inl rfl,World.iter_heap _ _ _,(Below.refl _ _).alloc (Nat.le_refl _) _,rfl⟩
 case round =>
  obtain ⟨pos,cc,rfl,hcc,hpe,hit,hbw,hr⟩:=hrel
  have hsz:w.heap.size < wr.heap.size:=(Array.getElem?_eq_some_iff.1 hit).1
  by_cases hp:pos < S.size
  ·have hnx:∀ ty,(Instr.next (.pointer (some ⟨w.heap.size,0,none⟩)) true ty).run Tryz.prog wr = _:=fun ty=>Lib.run_next_any_at wr w.heap.size S pos ty hit hp
   have hwd:=width_pos S pos hp
   have hst:=hr.out
   have hne:l.drop pos ≠ []:=by
    intro h
    have:=congrArg List.length h
    rw [List.length_drop] at this
    have:=HZ.out
    simp at *;omega
   rw [clsL_step _ _ hne,List.drop_drop,HD.out pos] at hst
   have HST:=Lib.hid hst
   have HIT:=Lib.hid hit
   generalize hw2:wr.iterAt w.heap.size S (pos + (Utf8.decode S pos).2) = w2 at hnx
   have hit2:w2.heap[w.heap.size]? = some (.stringIter S (pos + (Utf8.decode S pos).2)):=by rw [← hw2];exact Lib.iterAt_heap wr w.heap.size S pos _ hit
   have hbw2:Below w.heap.size w w2:=by rw [← hw2];exact Lib.below_iterAt hbw (by omega) S _
   have hsz2:w2.heap.size = wr.heap.size:=by rw [← hw2,Lib.iterAt_size]
   clear hw2 hit hbw hst hne hr
   have HC:=Lib.hid (HI.out cc (Utf8.decode S pos).1 w2 hcc hbw2)
   have hle:l.isEmpty = false:=by
    cases hq:l with
    | nil=>have:=HZ.out;rw [hq,List.length_nil] at this;omega
    | cons _ _=>rfl
   have HLE:=Lib.hid hle
   clear hle hpe hcc
   generalize (Utf8.decode S pos).1 = r at *
   generalize (Utf8.decode S pos).2 = wd at *
   cases hb:isR (rng cc) r with
   | false =>
    rw [hb] at HC HST
    go_wp2_with fail
    (with_reducible refine HC.out.mono ?_)
    rintro e w3 ⟨rfl,hb3⟩
    go_wp2_with fail
    go_ret
    exact ⟨ret_bool (by rw [HE.out,← HST.out];simp),hbw2.trans (hb3.mono hbw2.size)⟩
   | true =>
    rw [hb] at HC HST
    go_wp2_with fail
    (with_reducible refine HC.out.mono ?_)
    rintro e w3 ⟨rfl,hb3⟩
    have hit3:=(hb3.block w.heap.size (by omega)).trans hit2
    go_wp2_with fail
    go_roundw
    case rel=>exact ⟨pos + wd,3,rfl,by decide,.inr HLE.out,hit3,hbw2.trans (hb3.mono hbw2.size),by have:=HST.out;rw [Bool.true_and] at this;exact this⟩
    case measure =>
     have e1:w3.iterPos w.heap.size = pos + wd:=by unfold World.iterPos;rw [hit3]
     have e2:wr.iterPos w.heap.size = pos:=by unfold World.iterPos;rw [HIT.out]
     rw [e1,e2]
     omega
  ·have hnx:∀ ty,(Instr.next (.pointer (some ⟨w.heap.size,0,none⟩)) true ty).run Tryz.prog wr = _:=fun ty=>Lib.run_next_end_at wr w.heap.size S pos ty hit hp
   have hst:=hr.out
   rw [List.drop_of_length_le (by have:=HZ.out;omega)] at hst
   have HST:=Lib.hid hst
   clear hst hr
   clear hpe hcc
   cases hq:l.isEmpty with
   | true =>
    rw [hq] at hse HE
    have HE2:=HE
    clear hq
    go_wp2_with fail
    go_ret
    exact ⟨ret_bool (by rw [HE2.out];rfl),hbw⟩
   | false =>
    rw [hq] at hse HE
    have HE2:=HE
    clear hq
    go_wp2_with fail
    (with_reducible refine (HV.out _ hbw).mono ?_)
    rintro e w3 ⟨rfl,hb3⟩
    go_wp2_with fail
    go_ret
    exact ⟨ret_bool (by rw [HE2.out,← HST.out];simp [clsL_nil]),hbw.trans (hb3.mono hbw.size)⟩
end Go.Proofs.YtgjokdngbocehaaGreatDoor
namespace Go.Proofs.YtgjokdngbocehaaGreatDoor
open Go.RowKit
def regNo6 (n:Nat):Code → Option Code
 | .region id ops b=>if id == n then some (.region id ops b) else none
 | .seq a b=>match regNo6 n a with
  | some c=>some c
  | none=>regNo6 n b
 | .loop c=>regNo6 n c
 | .block _ c=>regNo6 n c
 | .scope c=>regNo6 n c
 | .cond _ a b=>match regNo6 n a with
  | some c=>some c
  | none=>regNo6 n b
 | _=>none
noncomputable def opens6:Code:=((Tryz.f77.body.bind (regNo6 6)).getD .skip)
set_option maxRecDepth 1000000 in
set_option maxHeartbeats 4000000 in
theorem opens6_zero (SInv:World → Prop) (eb ab:Nat) (nm vl:ByteArray) (u0 u1 u2 u4 u7 u8 u9 u10 u11 u12 u13 u14 u15 u16 u17 u18 u19 u20 u21 u22 u23 u24 u25 u26 u27 u28 u29 u30 u31 u32 u33 u34 u35 u36 u37 u38 u39 u40 u41 u42 u43 u44 u45 u46 u47 u48 u49 u50 u51 u52 u53 u54 u55 u56 u57 u58 u59 u60 u61 u62 u63 u64 u65 u66 u67 u68 u69 u70:Value) (w:World)
  (HC:Hid (∀ w',SInv w' → w'.cell? ⟨ab,0,none⟩ = some (.string nm) ∧ w'.cell? ⟨ab,1,none⟩ = some (.string vl) ∧ SInv w'))
  (HNK:Hid (∀ w',SInv w' → Calls Tryz.prog 88 #[.string nm] w' fun e w''=>e = .returned (.bool true) ∧ SInv w''))
  (HTK:Hid (∀ w',SInv w' → Calls Tryz.prog 78 #[.string vl] w' fun e w''=>e = .returned (.bool true) ∧ SInv w''))
  (hS:SInv w.drew) (Q:Exit → Act → World → Prop) (hQ:Hid (∀ w',SInv w' → Q .normal ⟨#[u0,u1,u2,.pointer (some ⟨eb,0,none⟩),u4,.int .i64 0,.pointer (some ⟨ab,0,none⟩),u7,u8,u9,u10,u11,u12,u13,u14,u15,u16,u17,u18,u19,u20,u21,u22,u23,u24,u25,u26,u27,u28,u29,u30,u31,u32,u33,u34,u35,u36,u37,u38,u39,u40,u41,u42,u43,.pointer (some ⟨ab,0,none⟩),.string nm,.bool true,.bool false,.bool false,.pointer (some ⟨ab,1,none⟩),.string vl,.bool true,.bool false,.bool false,.bool false,.int .i64 0,.bool false,.bool false,undef,undef,undef,undef,undef,undef,undef,undef,undef,undef,.bool false,.bool false,u70],[]⟩ w')) :
  Code.wp Tryz.prog opens6 Q ⟨#[u0,u1,u2,.pointer (some ⟨eb,0,none⟩),u4,.int .i64 0,.pointer (some ⟨ab,0,none⟩),u7,u8,u9,u10,u11,u12,u13,u14,u15,u16,u17,u18,u19,u20,u21,u22,u23,u24,u25,u26,u27,u28,u29,u30,u31,u32,u33,u34,u35,u36,u37,u38,u39,u40,u41,u42,u43,u44,u45,u46,u47,u48,u49,u50,u51,u52,u53,u54,u55,u56,u57,u58,u59,u60,u61,u62,u63,u64,u65,u66,u67,u68,u69,u70],[]⟩ w:=by
 conv=>arg 2;whnf
 have HQ0:=hQ.out
 refine wp_region_noPanic ?_
 refine wp_region_held_drew (S:=(fun w'=>w'.cell? ⟨ab,0,none⟩ = some (.string nm) ∧ w'.cell? ⟨ab,1,none⟩ = some (.string vl) ∧ SInv w')) (by kernel_rfl) (HC.out _ hS) (fun hHeld=>?_)
 refine wpAnyH_take (i:=0) (oi:=⟨some 44,_,_,_,_,_⟩) (v:=?_) rfl (by kernel_rfl) (by kernel_rfl) (by kernel_rfl) (fun _ _ _ h=>h) (Or.inl ⟨by kernel_rfl,?_⟩) (by assumption) ?_
 rotate_left
 ·intro w hSw;(try dsimp only at hSw);go_simp;try with_reducible rfl
 try simp only [Act.put,List.setIfInBounds_toArray,List.set_cons_zero,List.set_cons_succ]
 refine wpAnyH_take (i:=1) (oi:=⟨some 45,_,_,_,_,_⟩) (v:=?_) rfl (by kernel_rfl) (by kernel_rfl) (by kernel_rfl) (fun _ _ _ h=>h) (Or.inl ⟨by kernel_rfl,?_⟩) (by assumption) ?_
 rotate_left
 ·intro w hSw;(try dsimp only at hSw);go_simp;try with_reducible rfl
 try simp only [Act.put,List.setIfInBounds_toArray,List.set_cons_zero,List.set_cons_succ]
 refine wpAnyH_ready (rs:=[2]) (by kernel_rfl) (by simp) ?_
 refine AllReadyH.cons rfl (fun K hK=>?_) AllReadyH.nil
 go_simp
 (go_at_call 88;(with_reducible refine (HNK.out _ (by first | exact hHeld.2.2)).mono ?_);rintro e w2 ⟨rfl,hs2⟩)
 refine hK.out _ _ (HC.out _ hs2) (fun hHeld2=>?_)
 clear hK K
 try simp only [Act.put,List.setIfInBounds_toArray,List.set_cons_zero,List.set_cons_succ]
 refine wpAnyH_take (i:=3) (oi:=⟨some 47,_,_,_,_,_⟩) (v:=?_) rfl (by kernel_rfl) (by kernel_rfl) (by kernel_rfl) (fun _ _ _ h=>h) (Or.inl ⟨by kernel_rfl,?_⟩) (by assumption) ?_
 rotate_left
 ·intro w hSw;(try dsimp only at hSw);go_simp;try with_reducible rfl
 try simp only [Act.put,List.setIfInBounds_toArray,List.set_cons_zero,List.set_cons_succ]
 refine wpAnyH_take (i:=4) (oi:=⟨some 48,_,_,_,_,_⟩) (v:=?_) rfl (by kernel_rfl) (by kernel_rfl) (by kernel_rfl) (fun _ _ _ h=>h) (Or.inl ⟨by kernel_rfl,?_⟩) (by assumption) ?_
 rotate_left
 ·intro w hSw;(try dsimp only at hSw);go_simp;try with_reducible rfl
 try simp only [Act.put,List.setIfInBounds_toArray,List.set_cons_zero,List.set_cons_succ]
 refine wpAnyH_take (i:=5) (oi:=⟨some 49,_,_,_,_,_⟩) (v:=?_) rfl (by kernel_rfl) (by kernel_rfl) (by kernel_rfl) (fun _ _ _ h=>h) (Or.inl ⟨by kernel_rfl,?_⟩) (by assumption) ?_
 rotate_left
 ·intro w hSw;(try dsimp only at hSw);go_simp;try with_reducible rfl
 try simp only [Act.put,List.setIfInBounds_toArray,List.set_cons_zero,List.set_cons_succ]
 refine wpAnyH_take (i:=6) (oi:=⟨some 50,_,_,_,_,_⟩) (v:=?_) rfl (by kernel_rfl) (by kernel_rfl) (by kernel_rfl) (fun _ _ _ h=>h) (Or.inl ⟨by kernel_rfl,?_⟩) (by assumption) ?_
 rotate_left
 ·intro w hSw;(try dsimp only at hSw);go_simp;try with_reducible rfl
 try simp only [Act.put,List.setIfInBounds_toArray,List.set_cons_zero,List.set_cons_succ]
 refine wpAnyH_ready (rs:=[7]) (by kernel_rfl) (by simp) ?_
 refine AllReadyH.cons rfl (fun K hK=>?_) AllReadyH.nil
 go_simp
 (go_at_call 78;(with_reducible refine (HTK.out _ (by first | exact hHeld2.2.2)).mono ?_);rintro e w7 ⟨rfl,hs7⟩)
 refine hK.out _ _ (HC.out _ hs7) (fun hHeld7=>?_)
 clear hK K
 try simp only [Act.put,List.setIfInBounds_toArray,List.set_cons_zero,List.set_cons_succ]
 refine wpAnyH_take (i:=8) (oi:=⟨some 52,_,_,_,_,_⟩) (v:=?_) rfl (by kernel_rfl) (by kernel_rfl) (by kernel_rfl) (fun _ _ _ h=>h) (Or.inl ⟨by kernel_rfl,?_⟩) (by assumption) ?_
 rotate_left
 ·intro w hSw;(try dsimp only at hSw);go_simp;try with_reducible rfl
 try simp only [Act.put,List.setIfInBounds_toArray,List.set_cons_zero,List.set_cons_succ]
 refine wpAnyH_take (i:=9) (oi:=⟨some 53,_,_,_,_,_⟩) (v:=?_) rfl (by kernel_rfl) (by kernel_rfl) (by kernel_rfl) (fun _ _ _ h=>h) (Or.inl ⟨by kernel_rfl,?_⟩) (by assumption) ?_
 rotate_left
 ·intro w hSw;(try dsimp only at hSw);go_simp;try with_reducible rfl
 try simp only [Act.put,List.setIfInBounds_toArray,List.set_cons_zero,List.set_cons_succ]
 refine wpAnyH_take (i:=10) (oi:=⟨some 54,_,_,_,_,_⟩) (v:=?_) rfl (by kernel_rfl) (by kernel_rfl) (by kernel_rfl) (fun _ _ _ h=>h) (Or.inl ⟨by kernel_rfl,?_⟩) (by assumption) ?_
 rotate_left
 ·intro w hSw;(try dsimp only at hSw);go_simp;try with_reducible rfl
 try simp only [Act.put,List.setIfInBounds_toArray,List.set_cons_zero,List.set_cons_succ]
 refine wpAnyH_take (i:=11) (oi:=⟨some 55,_,_,_,_,_⟩) (v:=?_) rfl (by kernel_rfl) (by kernel_rfl) (by kernel_rfl) (fun _ _ _ h=>h) (Or.inl ⟨by kernel_rfl,?_⟩) (by assumption) ?_
 rotate_left
 ·intro w hSw;(try dsimp only at hSw);go_simp;try with_reducible rfl
 try simp only [Act.put,List.setIfInBounds_toArray,List.set_cons_zero,List.set_cons_succ]
 refine wpAnyH_take (i:=12) (oi:=⟨some 56,_,_,_,_,_⟩) (v:=?_) rfl (by kernel_rfl) (by kernel_rfl) (by kernel_rfl) (fun _ _ _ h=>h) (Or.inl ⟨by kernel_rfl,?_⟩) (by assumption) ?_
 rotate_left
 ·intro w hSw;(try dsimp only at hSw);go_simp;try with_reducible rfl
 try simp only [Act.put,List.setIfInBounds_toArray,List.set_cons_zero,List.set_cons_succ]
 refine wpAnyH_take (i:=13) (oi:=⟨some 57,_,_,_,_,_⟩) (v:=?_) rfl (by kernel_rfl) (by kernel_rfl) (by kernel_rfl) (fun _ _ _ h=>h) (Or.inl ⟨by kernel_rfl,?_⟩) (by assumption) ?_
 rotate_left
 ·intro w hSw;(try dsimp only at hSw);go_simp;try with_reducible rfl
 try simp only [Act.put,List.setIfInBounds_toArray,List.set_cons_zero,List.set_cons_succ]
 refine wpAnyH_skips (fuel:=2) (by kernel_rfl) (fun _ _ _ _ h=>h) (by assumption) [14,15,16,17,18,19,20,21,22,23] [some 58,some 59,some 60,some 61,some 62,some 63,some 64,some 65,some 66,some 67] 10 _ _ rfl (by kernel_rfl) ?_
 simp only [listedAfter,putU,Act.put,List.setIfInBounds_toArray,List.set_cons_zero,List.set_cons_succ]
 refine wpAnyH_take (i:=24) (oi:=⟨some 68,_,_,_,_,_⟩) (v:=?_) rfl (by kernel_rfl) (by kernel_rfl) (by kernel_rfl) (fun _ _ _ h=>h) (Or.inl ⟨by kernel_rfl,?_⟩) (by assumption) ?_
 rotate_left
 ·intro w hSw;(try dsimp only at hSw);go_simp;try with_reducible rfl
 try simp only [Act.put,List.setIfInBounds_toArray,List.set_cons_zero,List.set_cons_succ]
 refine wpAnyH_take (i:=25) (oi:=⟨some 69,_,_,_,_,_⟩) (v:=?_) rfl (by kernel_rfl) (by kernel_rfl) (by kernel_rfl) (fun _ _ _ h=>h) (Or.inl ⟨by kernel_rfl,?_⟩) (by assumption) ?_
 rotate_left
 ·intro w hSw;(try dsimp only at hSw);go_simp;try with_reducible rfl
 try simp only [Act.put,List.setIfInBounds_toArray,List.set_cons_zero,List.set_cons_succ]
 refine wpAnyH_done (by kernel_rfl) ?_ _
 exact HQ0 _ hs7
set_option maxRecDepth 1000000 in
set_option maxHeartbeats 4000000 in
theorem opens6_name (SInv:World → Prop) (eb ab k:Nat) (nm vl:ByteArray) (u0 u1 u2 u4 u7 u8 u9 u10 u11 u12 u13 u14 u15 u16 u17 u18 u19 u20 u21 u22 u23 u24 u25 u26 u27 u28 u29 u30 u31 u32 u33 u34 u35 u36 u37 u38 u39 u40 u41 u42 u43 u44 u45 u46 u47 u48 u49 u50 u51 u52 u53 u54 u55 u56 u57 u58 u59 u60 u61 u62 u63 u64 u65 u66 u67 u68 u69 u70:Value) (w:World)
  (HC:Hid (∀ w',SInv w' → w'.cell? ⟨ab,0,none⟩ = some (.string nm) ∧ w'.cell? ⟨ab,1,none⟩ = some (.string vl) ∧ SInv w'))
  (HNK:Hid (∀ w',SInv w' → Calls Tryz.prog 88 #[.string nm] w' fun e w''=>e = .returned (.bool false) ∧ SInv w''))
  (hS:SInv w.drew) (Q:Exit → Act → World → Prop) (hQ:Hid (∀ w',SInv w' → Q .normal ⟨#[u0,u1,u2,.pointer (some ⟨eb,0,none⟩),u4,.int .i64 k,.pointer (some ⟨ab,0,none⟩),u7,u8,u9,u10,u11,u12,u13,u14,u15,u16,u17,u18,u19,u20,u21,u22,u23,u24,u25,u26,u27,u28,u29,u30,u31,u32,u33,u34,u35,u36,u37,u38,u39,u40,u41,u42,u43,.pointer (some ⟨ab,0,none⟩),.string nm,.bool false,.bool true,.bool true,undef,undef,undef,undef,.bool true,.bool true,undef,undef,undef,undef,undef,undef,undef,undef,undef,undef,undef,undef,undef,undef,.bool true,u70],[]⟩ w')) :
  Code.wp Tryz.prog opens6 Q ⟨#[u0,u1,u2,.pointer (some ⟨eb,0,none⟩),u4,.int .i64 k,.pointer (some ⟨ab,0,none⟩),u7,u8,u9,u10,u11,u12,u13,u14,u15,u16,u17,u18,u19,u20,u21,u22,u23,u24,u25,u26,u27,u28,u29,u30,u31,u32,u33,u34,u35,u36,u37,u38,u39,u40,u41,u42,u43,u44,u45,u46,u47,u48,u49,u50,u51,u52,u53,u54,u55,u56,u57,u58,u59,u60,u61,u62,u63,u64,u65,u66,u67,u68,u69,u70],[]⟩ w:=by
 conv=>arg 2;whnf
 have HQ0:=hQ.out
 refine wp_region_noPanic ?_
 refine wp_region_held_drew (S:=(fun w'=>w'.cell? ⟨ab,0,none⟩ = some (.string nm) ∧ w'.cell? ⟨ab,1,none⟩ = some (.string vl) ∧ SInv w')) (by kernel_rfl) (HC.out _ hS) (fun hHeld=>?_)
 refine wpAnyH_take (i:=0) (oi:=⟨some 44,_,_,_,_,_⟩) (v:=?_) rfl (by kernel_rfl) (by kernel_rfl) (by kernel_rfl) (fun _ _ _ h=>h) (Or.inl ⟨by kernel_rfl,?_⟩) (by assumption) ?_
 rotate_left
 ·intro w hSw;(try dsimp only at hSw);go_simp;try with_reducible rfl
 try simp only [Act.put,List.setIfInBounds_toArray,List.set_cons_zero,List.set_cons_succ]
 refine wpAnyH_take (i:=1) (oi:=⟨some 45,_,_,_,_,_⟩) (v:=?_) rfl (by kernel_rfl) (by kernel_rfl) (by kernel_rfl) (fun _ _ _ h=>h) (Or.inl ⟨by kernel_rfl,?_⟩) (by assumption) ?_
 rotate_left
 ·intro w hSw;(try dsimp only at hSw);go_simp;try with_reducible rfl
 try simp only [Act.put,List.setIfInBounds_toArray,List.set_cons_zero,List.set_cons_succ]
 refine wpAnyH_ready (rs:=[2]) (by kernel_rfl) (by simp) ?_
 refine AllReadyH.cons rfl (fun K hK=>?_) AllReadyH.nil
 go_simp
 (go_at_call 88;(with_reducible refine (HNK.out _ (by first | exact hHeld.2.2)).mono ?_);rintro e w2 ⟨rfl,hs2⟩)
 refine hK.out _ _ (HC.out _ hs2) (fun hHeld2=>?_)
 clear hK K
 try simp only [Act.put,List.setIfInBounds_toArray,List.set_cons_zero,List.set_cons_succ]
 refine wpAnyH_take (i:=3) (oi:=⟨some 47,_,_,_,_,_⟩) (v:=?_) rfl (by kernel_rfl) (by kernel_rfl) (by kernel_rfl) (fun _ _ _ h=>h) (Or.inl ⟨by kernel_rfl,?_⟩) (by assumption) ?_
 rotate_left
 ·intro w hSw;(try dsimp only at hSw);go_simp;try with_reducible rfl
 try simp only [Act.put,List.setIfInBounds_toArray,List.set_cons_zero,List.set_cons_succ]
 refine wpAnyH_take (i:=4) (oi:=⟨some 48,_,_,_,_,_⟩) (v:=?_) rfl (by kernel_rfl) (by kernel_rfl) (by kernel_rfl) (fun _ _ _ h=>h) (Or.inl ⟨by kernel_rfl,?_⟩) (by assumption) ?_
 rotate_left
 ·intro w hSw;(try dsimp only at hSw);go_simp;try with_reducible rfl
 try simp only [Act.put,List.setIfInBounds_toArray,List.set_cons_zero,List.set_cons_succ]
 refine wpAnyH_skips (fuel:=17) (by kernel_rfl) (fun _ _ _ _ h=>h) (by assumption) [5,6,7,8] [some 49,some 50,some 51,some 52] 4 _ _ rfl (by kernel_rfl) ?_
 simp only [listedAfter,putU,Act.put,List.setIfInBounds_toArray,List.set_cons_zero,List.set_cons_succ]
 refine wpAnyH_take (i:=9) (oi:=⟨some 53,_,_,_,_,_⟩) (v:=?_) rfl (by kernel_rfl) (by kernel_rfl) (by kernel_rfl) (fun _ _ _ h=>h) (Or.inl ⟨by kernel_rfl,?_⟩) (by assumption) ?_
 rotate_left
 ·intro w hSw;(try dsimp only at hSw);go_simp;try with_reducible rfl
 try simp only [Act.put,List.setIfInBounds_toArray,List.set_cons_zero,List.set_cons_succ]
 refine wpAnyH_take (i:=10) (oi:=⟨some 54,_,_,_,_,_⟩) (v:=?_) rfl (by kernel_rfl) (by kernel_rfl) (by kernel_rfl) (fun _ _ _ h=>h) (Or.inl ⟨by kernel_rfl,?_⟩) (by assumption) ?_
 rotate_left
 ·intro w hSw;(try dsimp only at hSw);go_simp;try with_reducible rfl
 try simp only [Act.put,List.setIfInBounds_toArray,List.set_cons_zero,List.set_cons_succ]
 refine wpAnyH_skips (fuel:=1) (by kernel_rfl) (fun _ _ _ _ h=>h) (by assumption) [11,12,13,14,15,16,17,18,19,20,21,22,23,24] [some 55,some 56,some 57,some 58,some 59,some 60,some 61,some 62,some 63,some 64,some 65,some 66,some 67,some 68] 14 _ _ rfl (by kernel_rfl) ?_
 simp only [listedAfter,putU,Act.put,List.setIfInBounds_toArray,List.set_cons_zero,List.set_cons_succ]
 refine wpAnyH_take (i:=25) (oi:=⟨some 69,_,_,_,_,_⟩) (v:=?_) rfl (by kernel_rfl) (by kernel_rfl) (by kernel_rfl) (fun _ _ _ h=>h) (Or.inl ⟨by kernel_rfl,?_⟩) (by assumption) ?_
 rotate_left
 ·intro w hSw;(try dsimp only at hSw);go_simp;try with_reducible rfl
 try simp only [Act.put,List.setIfInBounds_toArray,List.set_cons_zero,List.set_cons_succ]
 refine wpAnyH_done (by kernel_rfl) ?_ _
 exact HQ0 _ hs2
set_option maxRecDepth 1000000 in
set_option maxHeartbeats 4000000 in
theorem opens6_texts (SInv:World → Prop) (eb ab k:Nat) (nm vl:ByteArray) (u0 u1 u2 u4 u7 u8 u9 u10 u11 u12 u13 u14 u15 u16 u17 u18 u19 u20 u21 u22 u23 u24 u25 u26 u27 u28 u29 u30 u31 u32 u33 u34 u35 u36 u37 u38 u39 u40 u41 u42 u43 u44 u45 u46 u47 u48 u49 u50 u51 u52 u53 u54 u55 u56 u57 u58 u59 u60 u61 u62 u63 u64 u65 u66 u67 u68 u69 u70:Value) (w:World)
  (HC:Hid (∀ w',SInv w' → w'.cell? ⟨ab,0,none⟩ = some (.string nm) ∧ w'.cell? ⟨ab,1,none⟩ = some (.string vl) ∧ SInv w'))
  (HNK:Hid (∀ w',SInv w' → Calls Tryz.prog 88 #[.string nm] w' fun e w''=>e = .returned (.bool true) ∧ SInv w''))
  (HTK:Hid (∀ w',SInv w' → Calls Tryz.prog 78 #[.string vl] w' fun e w''=>e = .returned (.bool false) ∧ SInv w''))
  (hS:SInv w.drew) (Q:Exit → Act → World → Prop) (hQ:Hid (∀ w',SInv w' → Q .normal ⟨#[u0,u1,u2,.pointer (some ⟨eb,0,none⟩),u4,.int .i64 k,.pointer (some ⟨ab,0,none⟩),u7,u8,u9,u10,u11,u12,u13,u14,u15,u16,u17,u18,u19,u20,u21,u22,u23,u24,u25,u26,u27,u28,u29,u30,u31,u32,u33,u34,u35,u36,u37,u38,u39,u40,u41,u42,u43,.pointer (some ⟨ab,0,none⟩),.string nm,.bool true,.bool false,.bool false,.pointer (some ⟨ab,1,none⟩),.string vl,.bool false,.bool true,.bool true,.bool true,undef,undef,undef,undef,undef,undef,undef,undef,undef,undef,undef,undef,undef,undef,.bool true,u70],[]⟩ w')) :
  Code.wp Tryz.prog opens6 Q ⟨#[u0,u1,u2,.pointer (some ⟨eb,0,none⟩),u4,.int .i64 k,.pointer (some ⟨ab,0,none⟩),u7,u8,u9,u10,u11,u12,u13,u14,u15,u16,u17,u18,u19,u20,u21,u22,u23,u24,u25,u26,u27,u28,u29,u30,u31,u32,u33,u34,u35,u36,u37,u38,u39,u40,u41,u42,u43,u44,u45,u46,u47,u48,u49,u50,u51,u52,u53,u54,u55,u56,u57,u58,u59,u60,u61,u62,u63,u64,u65,u66,u67,u68,u69,u70],[]⟩ w:=by
 conv=>arg 2;whnf
 have HQ0:=hQ.out
 refine wp_region_noPanic ?_
 refine wp_region_held_drew (S:=(fun w'=>w'.cell? ⟨ab,0,none⟩ = some (.string nm) ∧ w'.cell? ⟨ab,1,none⟩ = some (.string vl) ∧ SInv w')) (by kernel_rfl) (HC.out _ hS) (fun hHeld=>?_)
 refine wpAnyH_take (i:=0) (oi:=⟨some 44,_,_,_,_,_⟩) (v:=?_) rfl (by kernel_rfl) (by kernel_rfl) (by kernel_rfl) (fun _ _ _ h=>h) (Or.inl ⟨by kernel_rfl,?_⟩) (by assumption) ?_
 rotate_left
 ·intro w hSw;(try dsimp only at hSw);go_simp;try with_reducible rfl
 try simp only [Act.put,List.setIfInBounds_toArray,List.set_cons_zero,List.set_cons_succ]
 refine wpAnyH_take (i:=1) (oi:=⟨some 45,_,_,_,_,_⟩) (v:=?_) rfl (by kernel_rfl) (by kernel_rfl) (by kernel_rfl) (fun _ _ _ h=>h) (Or.inl ⟨by kernel_rfl,?_⟩) (by assumption) ?_
 rotate_left
 ·intro w hSw;(try dsimp only at hSw);go_simp;try with_reducible rfl
 try simp only [Act.put,List.setIfInBounds_toArray,List.set_cons_zero,List.set_cons_succ]
 refine wpAnyH_ready (rs:=[2]) (by kernel_rfl) (by simp) ?_
 refine AllReadyH.cons rfl (fun K hK=>?_) AllReadyH.nil
 go_simp
 (go_at_call 88;(with_reducible refine (HNK.out _ (by first | exact hHeld.2.2)).mono ?_);rintro e w2 ⟨rfl,hs2⟩)
 refine hK.out _ _ (HC.out _ hs2) (fun hHeld2=>?_)
 clear hK K
 try simp only [Act.put,List.setIfInBounds_toArray,List.set_cons_zero,List.set_cons_succ]
 refine wpAnyH_take (i:=3) (oi:=⟨some 47,_,_,_,_,_⟩) (v:=?_) rfl (by kernel_rfl) (by kernel_rfl) (by kernel_rfl) (fun _ _ _ h=>h) (Or.inl ⟨by kernel_rfl,?_⟩) (by assumption) ?_
 rotate_left
 ·intro w hSw;(try dsimp only at hSw);go_simp;try with_reducible rfl
 try simp only [Act.put,List.setIfInBounds_toArray,List.set_cons_zero,List.set_cons_succ]
 refine wpAnyH_take (i:=4) (oi:=⟨some 48,_,_,_,_,_⟩) (v:=?_) rfl (by kernel_rfl) (by kernel_rfl) (by kernel_rfl) (fun _ _ _ h=>h) (Or.inl ⟨by kernel_rfl,?_⟩) (by assumption) ?_
 rotate_left
 ·intro w hSw;(try dsimp only at hSw);go_simp;try with_reducible rfl
 try simp only [Act.put,List.setIfInBounds_toArray,List.set_cons_zero,List.set_cons_succ]
 refine wpAnyH_take (i:=5) (oi:=⟨some 49,_,_,_,_,_⟩) (v:=?_) rfl (by kernel_rfl) (by kernel_rfl) (by kernel_rfl) (fun _ _ _ h=>h) (Or.inl ⟨by kernel_rfl,?_⟩) (by assumption) ?_
 rotate_left
 ·intro w hSw;(try dsimp only at hSw);go_simp;try with_reducible rfl
 try simp only [Act.put,List.setIfInBounds_toArray,List.set_cons_zero,List.set_cons_succ]
 refine wpAnyH_take (i:=6) (oi:=⟨some 50,_,_,_,_,_⟩) (v:=?_) rfl (by kernel_rfl) (by kernel_rfl) (by kernel_rfl) (fun _ _ _ h=>h) (Or.inl ⟨by kernel_rfl,?_⟩) (by assumption) ?_
 rotate_left
 ·intro w hSw;(try dsimp only at hSw);go_simp;try with_reducible rfl
 try simp only [Act.put,List.setIfInBounds_toArray,List.set_cons_zero,List.set_cons_succ]
 refine wpAnyH_ready (rs:=[7]) (by kernel_rfl) (by simp) ?_
 refine AllReadyH.cons rfl (fun K hK=>?_) AllReadyH.nil
 go_simp
 (go_at_call 78;(with_reducible refine (HTK.out _ (by first | exact hHeld2.2.2)).mono ?_);rintro e w7 ⟨rfl,hs7⟩)
 refine hK.out _ _ (HC.out _ hs7) (fun hHeld7=>?_)
 clear hK K
 try simp only [Act.put,List.setIfInBounds_toArray,List.set_cons_zero,List.set_cons_succ]
 refine wpAnyH_take (i:=8) (oi:=⟨some 52,_,_,_,_,_⟩) (v:=?_) rfl (by kernel_rfl) (by kernel_rfl) (by kernel_rfl) (fun _ _ _ h=>h) (Or.inl ⟨by kernel_rfl,?_⟩) (by assumption) ?_
 rotate_left
 ·intro w hSw;(try dsimp only at hSw);go_simp;try with_reducible rfl
 try simp only [Act.put,List.setIfInBounds_toArray,List.set_cons_zero,List.set_cons_succ]
 refine wpAnyH_take (i:=9) (oi:=⟨some 53,_,_,_,_,_⟩) (v:=?_) rfl (by kernel_rfl) (by kernel_rfl) (by kernel_rfl) (fun _ _ _ h=>h) (Or.inl ⟨by kernel_rfl,?_⟩) (by assumption) ?_
 rotate_left
 ·intro w hSw;(try dsimp only at hSw);go_simp;try with_reducible rfl
 try simp only [Act.put,List.setIfInBounds_toArray,List.set_cons_zero,List.set_cons_succ]
 refine wpAnyH_take (i:=10) (oi:=⟨some 54,_,_,_,_,_⟩) (v:=?_) rfl (by kernel_rfl) (by kernel_rfl) (by kernel_rfl) (fun _ _ _ h=>h) (Or.inl ⟨by kernel_rfl,?_⟩) (by assumption) ?_
 rotate_left
 ·intro w hSw;(try dsimp only at hSw);go_simp;try with_reducible rfl
 try simp only [Act.put,List.setIfInBounds_toArray,List.set_cons_zero,List.set_cons_succ]
 refine wpAnyH_skips (fuel:=1) (by kernel_rfl) (fun _ _ _ _ h=>h) (by assumption) [11,12,13,14,15,16,17,18,19,20,21,22,23,24] [some 55,some 56,some 57,some 58,some 59,some 60,some 61,some 62,some 63,some 64,some 65,some 66,some 67,some 68] 14 _ _ rfl (by kernel_rfl) ?_
 simp only [listedAfter,putU,Act.put,List.setIfInBounds_toArray,List.set_cons_zero,List.set_cons_succ]
 refine wpAnyH_take (i:=25) (oi:=⟨some 69,_,_,_,_,_⟩) (v:=?_) rfl (by kernel_rfl) (by kernel_rfl) (by kernel_rfl) (fun _ _ _ h=>h) (Or.inl ⟨by kernel_rfl,?_⟩) (by assumption) ?_
 rotate_left
 ·intro w hSw;(try dsimp only at hSw);go_simp;try with_reducible rfl
 try simp only [Act.put,List.setIfInBounds_toArray,List.set_cons_zero,List.set_cons_succ]
 refine wpAnyH_done (by kernel_rfl) ?_ _
 exact HQ0 _ hs7
end Go.Proofs.YtgjokdngbocehaaGreatDoor
namespace Go.Proofs.YtgjokdngbocehaaGreatDoor
open Go.RowKit
theorem info_rune3:(Tryz.prog.info? 21).map (fun i=>(i.zero,i.size,i.bytes)) = some (some (.int .i32 0),1,4):=by kernel_rfl
theorem order_any (a b:Int) (w:World) :
  Calls Tryz.prog 114 #[.int .i64 a,.int .i64 b] w fun e w'=>e = .returned (.int .i64 (if a < b then -1 else if b < a then 1 else 0)) ∧ w' = w:=by
 by_cases h1:a < b
 ·rw [if_pos h1]
  go_enter Tryz.func114,Tryz.ntmps114
  go_wp2
  go_ret
  exact ⟨rfl,rfl⟩
 ·rw [if_neg h1]
  have h1':b ≤ a:=by omega
  by_cases h2:b < a
  ·rw [if_pos h2]
   go_enter Tryz.func114,Tryz.ntmps114
   go_wp2
   go_ret
   exact ⟨rfl,rfl⟩
  ·rw [if_neg h2]
   have h2':a ≤ b:=by omega
   go_enter Tryz.func114,Tryz.ntmps114
   go_wp2
   go_ret
   exact ⟨rfl,rfl⟩
set_option maxHeartbeats 1000000 in
set_option maxRecDepth 100000 in
theorem Runes3_any (s:ByteArray) (w:World) (hs:s.size ≤ 1048576) :
  Calls Tryz.prog 113 #[.string s] w fun e w'=>RetSl e w' ((runesOf s).map (Value.int .i32)) ∧ Below w.heap.size w w':=by
 obtain ⟨i0,hi,hz0,hz1,hz2⟩:=info_parts info_rune3
 go_enter Tryz.func113,Tryz.ntmps113
 go_wp2_with fail
 go_loopw [3] (fun v wr=>∃ (pos n:Nat) (l:List Int),wr.heap[w.heap.size]? = some (.stringIter s pos) ∧ Below w.heap.size w wr ∧ wr.ownsRow (w.heap.size + 1) 21 1 v n (l.map (Value.int .i32)) ∧ Hid (v.ownBlock ≠ some w.heap.size) ∧ Hid (l ++ runesAt s pos = runesOf s) ∧ Hid (l.length = n)) (fun _ wr=>s.size - wr.iterPos w.heap.size)
 case atStart =>
  refine ⟨0,0,[],World.iter_heap _ _ _,(Below.refl _ _).alloc (Nat.le_refl _) _,⟨rfl,.inl ⟨rfl,rfl⟩⟩,Lib.hid (by simp [Value.ownBlock]),?_,rfl⟩
  show _ = _;rw [runesAt_zero];rfl
 case round =>
  obtain ⟨pos,n,l,hit,hbw,hown,HNE,hr,hln⟩:=hrel
  have hsz:w.heap.size < wr.heap.size:=(Array.getElem?_eq_some_iff.1 hit).1
  by_cases hp:pos < s.size
  ·have hnx:∀ ty,(Instr.next (.pointer (some ⟨w.heap.size,0,none⟩)) true ty).run Tryz.prog wr = _:=fun ty=>Lib.run_next_any_at wr w.heap.size s pos ty hit hp
   have hwd:=width_pos s pos hp
   have hst:=hr.out
   have hll:=hln.out
   rw [runesAt_step s pos hp] at hst
   have hnb:n + 1 ≤ s.size:=by
    have h1:=runesOf_length s
    rw [← hst] at h1
    simp at h1
    omega
   have HST:=Lib.hid hst
   have HIT:=Lib.hid hit
   clear hst hll
   generalize hw2:wr.iterAt w.heap.size s (pos + (Utf8.decode s pos).2) = w2 at hnx
   have hit2:w2.heap[w.heap.size]? = some (.stringIter s (pos + (Utf8.decode s pos).2)):=by rw [← hw2];exact Lib.iterAt_heap wr w.heap.size s pos _ hit
   have hbw2:Below w.heap.size w w2:=by rw [← hw2];exact Lib.below_iterAt hbw (by omega) s _
   have hown2:=own_block (w':=w2) hown (fun k hk=>by rw [← hw2];exact Lib.iterAt_other wr w.heap.size k s _ (fun e=>HNE.out (by rw [hk,e])))
   have hsz2:w2.heap.size = wr.heap.size:=by rw [← hw2,Lib.iterAt_size]
   clear hw2 hit hbw hown
   have hsz3:w.heap.size < w2.heap.size:=by omega
   have hsz4:w.heap.size + 1 ≤ w2.heap.size:=by omega
   clear hsz2
   go_wp2_with (at_builtin;refine wpList_app w2 rfl _ _ 187 (by rfl) (w.heap.size + 1) 21 i0 (.int .i32 0) 1 4 Tryz.underlying187 hi hz0 hz1 hz2 rfl (by decide) _ n _ (by rfl) hown2 _ rfl 1 [.int .i32 (Utf8.decode s pos).1] (by rfl) rfl (by simp [Value.oneCell']) (by omega) (by decide) hsz4 (fun v3 w3 hown3 happ3=>?_))
   have hbl:=hown2.lt
   have hk3:=happ3.keep (k:=w.heap.size) (by simp;omega) HNE.out
   have hn3:=happ3.ne (k:=w.heap.size) (by simp;omega) HNE.out
   have hb3:=(hbw2.alloc (by omega) (.cells #[.int .i32 (Utf8.decode s pos).1] 21)).trans (happ3.below (by simp;omega) (fun k hk=>by have:=(hbl k hk).1;omega))
   go_roundw
   case rel =>
    refine ⟨pos + (Utf8.decode s pos).2,n + 1,l ++ [((Utf8.decode s pos).1:Int)],?_,hb3,by simpa using hown3,hn3,?_,?_⟩
    ·rw [hk3,Below.heap_alloc _ _ _ (by omega)];exact hit2
    ·show _ = _;rw [← HST.out];simp
    ·show _ = _;rw [← hln.out];simp
   case measure =>
    have e1:w3.iterPos w.heap.size = pos + (Utf8.decode s pos).2:=by
     unfold World.iterPos;rw [hk3,Below.heap_alloc _ _ _ (by omega),hit2]
    have e2:wr.iterPos w.heap.size = pos:=by unfold World.iterPos;rw [HIT.out]
    rw [e1,e2]
    omega
  ·have hnx:∀ ty,(Instr.next (.pointer (some ⟨w.heap.size,0,none⟩)) true ty).run Tryz.prog wr = _:=fun ty=>Lib.run_next_end_at wr w.heap.size s pos ty hit hp
   have hst:=hr.out
   rw [runesAt_end s pos hp,List.append_nil] at hst
   subst hst
   go_wp2
   go_ret
   obtain ⟨a,c,rfl,hsl⟩:=own_sl hown
   exact ⟨⟨a,n,c,rfl,hsl⟩,hbw⟩
set_option maxHeartbeats 1000000 in
set_option maxRecDepth 100000 in
theorem Cmp3_any (s t:ByteArray) (w:World) (hs:s.size ≤ 1048576) (ht:t.size ≤ 1048576) :
  Calls Tryz.prog 86 #[.string s,.string t] w fun e w'=>e = .returned (.int .i64 (cmpL (runesOf s) (runesOf t))) ∧ Below w.heap.size w w':=by
 have HS:=Lib.hid (fun W=>Runes3_any s W hs)
 have HT:=Lib.hid (fun W=>Runes3_any t W ht)
 have hls:=runesOf_length s
 generalize runesOf s = xs at *
 generalize runesOf t = ys at *
 go_enter Tryz.func86,Tryz.ntmps86
 go_wp2_with fail
 (with_reducible refine (HS.out _).mono ?_)
 rintro e w1 ⟨⟨a0,n0,c0,rfl,h0⟩,b1⟩
 go_wp2_with fail
 (with_reducible refine (HT.out _).mono ?_)
 rintro e w2 ⟨⟨a1,n1,c1,rfl,h1⟩,b2⟩
 have H0:=Lib.hid (h0.below b2)
 have H1:=Lib.hid h1
 have hb:=Below.tr b1 b2
 have HX:Hid (n0 = xs.length):=Lib.hid (by have:=h0.len;simpa using this)
 have HY:Hid (n1 = ys.length):=Lib.hid (by have:=h1.len;simpa using this)
 have hm0:n0 ≤ 1048576:=by have:=HX.out;omega
 clear h0 h1 b1 b2 hls
 go_wp2_with fail
 go_loopw [7] (fun i w'=>∃ k:Nat,k ≤ n0 ∧ k ≤ n1 ∧ i = .int .i64 k ∧ (∃ n,w' = w2.drewN n) ∧ Hid (cmpL (xs.drop k) (ys.drop k) = cmpL xs ys)) (fun i _=>n0 - (intOf i).toNat)
 case atStart=>exact ⟨0,Nat.zero_le _,Nat.zero_le _,rfl,⟨0,rfl⟩,rfl⟩
 case round =>
  obtain ⟨k,hk0,hk1,rfl,⟨n,rfl⟩,hr⟩:=hrel
  by_cases hlt:k < n0 ∧ k < n1
  ·obtain ⟨hl0,hl1⟩:=hlt
   have l0:k < xs.length:=by rw [← HX.out];exact hl0
   have l1:k < ys.length:=by rw [← HY.out];exact hl1
   obtain ⟨b0,o0,rfl,_,e0⟩:=H0.out.cell k (by simpa using l0)
   obtain ⟨b1,o1,rfl,_,e1⟩:=H1.out.cell k (by simpa using l1)
   simp only [List.getElem_map] at e0 e1
   have hd:=cmpL_drop xs ys k l0 l1
   rw [hr.out] at hd
   generalize xs[k] = x at e0 hd
   generalize ys[k] = y at e1 hd
   have HD:=Lib.hid hd
   clear hd l0 l1
   have hd0:decide ((k:Int) < n0) = true:=by simp;omega
   have hd1:decide ((k:Int) < n1) = true:=by simp;omega
   go_wp2_with (go_quiet (fail))
   ·have hlt:x < y:=by assumption
    go_ret
    exact ⟨ret_int (by rw [HD.out,if_pos hlt]),by simp only [World.drewN_drewN];exact Below.drewN hb _⟩
   ·have hlt:y < x:=by assumption
    go_ret
    exact ⟨ret_int (by rw [HD.out,if_neg (by omega),if_pos hlt]),by simp only [World.drewN_drewN];exact Below.drewN hb _⟩
   ·go_roundw
    case rel=>exact ⟨k + 1,by omega,by omega,by go_num,⟨_,rfl⟩,by rw [HD.out,if_neg (by omega),if_neg (by omega)];rfl⟩
    case measure=>simp [intOf];omega
  ·have hd:=cmpL_end xs ys k (by rw [← HX.out,← HY.out];exact hlt) (by rw [← HX.out];exact hk0) (by rw [← HY.out];exact hk1)
   rw [hr.out,← HX.out,← HY.out] at hd
   have HD:=Lib.hid hd
   have HOR:=Lib.hid (order_any n0 n1)
   have hci:(if (n0:Int) < (n1:Int) then (-1:Int) else if (n1:Int) < (n0:Int) then 1 else 0) = cmpL xs ys:=by
    rw [HD.out]
    by_cases q1:n0 < n1
    ·rw [if_pos (show (n0:Int) < (n1:Int) by omega),if_pos q1]
    ·rw [if_neg (show ¬ (n0:Int) < (n1:Int) by omega),if_neg q1]
     by_cases q2:n1 < n0
     ·rw [if_pos (show (n1:Int) < (n0:Int) by omega),if_pos q2]
     ·rw [if_neg (show ¬ (n1:Int) < (n0:Int) by omega),if_neg q2]
   rw [hci] at HOR
   clear hd hci hr
   have hb2:=Below.drewN hb n
   by_cases q0:k < n0
   ·have q1:n1 ≤ k:=by omega
    go_wp2_with fail
    (with_reducible refine (HOR.out _).mono ?_)
    rintro e w3 ⟨rfl,rfl⟩
    go_wp2_with fail
    go_ret
    exact ⟨rfl,hb2⟩
   ·have q1:n0 ≤ k:=by omega
    go_wp2_with fail
    (with_reducible refine (HOR.out _).mono ?_)
    rintro e w3 ⟨rfl,rfl⟩
    go_wp2_with fail
    go_ret
    exact ⟨rfl,hb2⟩
end Go.Proofs.YtgjokdngbocehaaGreatDoor
