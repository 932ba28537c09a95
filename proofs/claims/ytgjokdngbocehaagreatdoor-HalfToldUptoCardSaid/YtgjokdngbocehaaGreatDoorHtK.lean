/-
  unicode/utf8.ValidString: its contract laid at this dump (the shelf's table does not name it).
-/
import Derived.Shelf.Unicode.ValidAny
import Derived.Lib.LaidU8T
import Derived.Test.YtgjokdngbocehaaGreatDoorHtA
import Derived.Test.YtgjokdngbocehaaGreatDoorHtD
import Derived.Test.YtgjokdngbocehaaGreatDoorHtE
import Derived.Test.YtgjokdngbocehaaGreatDoorHtF
import Derived.Test.YtgjokdngbocehaaGreatDoorHtH
namespace Go.Proofs.YtgjokdngbocehaaGreatDoor
open Go.RowKit
def validRen:Go.Shelf.Ren:=⟨fun | 196=>106 | 259=>134 | n=>n,fun | 12=>12 | 46=>206 | 53=>240 | 119=>202 | 138=>204 | 139=>205 | n=>n,fun | 3=>0 | 4=>1 | n=>n⟩
theorem laysValid:Go.Proofs.Lays.n196 Tryz.prog validRen where
 mixed:=by kernel_rfl
 f196:=Tryz.func106.trans (congrArg some (by kernel_rfl))
 f259:=Tryz.func134.trans (congrArg some (by kernel_rfl))
 t0:=Tryz.underlying0
 a0:=Tryz.isAgg0
 z0:=Tryz.sizeOf0
 v0:=Tryz.zeroValue0
 t3:=Tryz.underlying3
 a3:=Tryz.isAgg3
 z3:=Tryz.sizeOf3
 v3:=Tryz.zeroValue3
 t4:=Tryz.underlying4
 a4:=Tryz.isAgg4
 z4:=Tryz.sizeOf4
 v4:=Tryz.zeroValue4
 t5:=Tryz.underlying5
 a5:=Tryz.isAgg5
 z5:=Tryz.sizeOf5
 v5:=Tryz.zeroValue5
 t9:=Tryz.underlying9
 a9:=Tryz.isAgg9
 z9:=Tryz.sizeOf9
 v9:=Tryz.zeroValue9
 t12:=Tryz.underlying12
 a12:=Tryz.isAgg12
 z12:=Tryz.sizeOf12
 v12:=Tryz.zeroValue12
 t46:=Tryz.underlying206
 a46:=Tryz.isAgg206
 z46:=Tryz.sizeOf206
 v46:=Tryz.zeroValue206
 t53:=Tryz.underlying240
 a53:=Tryz.isAgg240
 z53:=Tryz.sizeOf240
 v53:=Tryz.zeroValue240
 t119:=Tryz.underlying202
 a119:=Tryz.isAgg202
 z119:=Tryz.sizeOf202
 t138:=Tryz.underlying204
 a138:=Tryz.isAgg204
 z138:=Tryz.sizeOf204
 v138:=Tryz.zeroValue204
 t139:=Tryz.underlying205
 a139:=Tryz.isAgg205
 z139:=Tryz.sizeOf205
 v139:=Tryz.zeroValue205
 g3:=by kernel_rfl
 g4:=by kernel_rfl
theorem Valid_any (s:ByteArray) (w:World) (hs:s.size ≤ 9223372036854775807) (hT:Lib.Utf8Tabs 0 1 w) :
  Calls Tryz.prog 106 #[.string s] w fun e w'=>e = .returned (.bool (Lib.validD s.data.toList)) ∧ Below w.heap.size w w' :=
 Any.utf8_ValidString laysValid s w hs hT
theorem u8types:U8Types Tryz.prog validRen:=U8Types.of196 laysValid
end Go.Proofs.YtgjokdngbocehaaGreatDoor
namespace Go.Proofs.YtgjokdngbocehaaGreatDoor
open Go.RowKit
set_option maxRecDepth 100000 in
set_option maxHeartbeats 1000000 in
theorem Name_any (l:List UInt8) (w:World) (hl:l.length ≤ 1073741824) (hR:RangesAt w 2) (hT:Lib.Utf8Tabs 0 1 w) :
  Calls Tryz.prog 88 #[.string (strU l)] w fun e w'=>e = .returned (.bool (nameB l)) ∧ Below w.heap.size w w':=by
 have HR:=Lib.hid hR
 have HT:=Lib.hid hT
 have HV:Hid (∀ W,Below w.heap.size w W → Calls Tryz.prog 106 #[.string (strU l)] W fun e w'=>e = .returned (.bool (Lib.validD l)) ∧ Below W.heap.size W w'):=Lib.hid fun W hW=>by
  have:=Valid_any (strU l) W (by rw [strU_size];omega) (Utf8Tabs_below HT.out hW)
  rw [strU_data] at this
  exact this
 have HI:Hid (∀ (c r:Nat) W,c < 6 → Below w.heap.size w W → Calls Tryz.prog 105 #[.int .i64 c,.int .i32 r] W fun e w'=>e = .returned (.bool (isR (rng c) r)) ∧ Below W.heap.size W w'):=Lib.hid fun c r W hc hW=>Is_any c hc r W (HR.out.below hW)
 have HD:Hid (∀ pos,decL (l.drop pos) = Utf8.decode (strU l) pos):=Lib.hid (decL_str l)
 have HE:Hid (nameB l = (!l.isEmpty && (clsL 2 l && Lib.validD l))):=Lib.hid rfl
 have hse:=strU_empty l
 have HZ:Hid ((strU l).size = l.length):=Lib.hid (strU_size l)
 clear hR hT HR HT
 generalize Lib.validD l = V at *
 generalize nameB l = T at *
 generalize hS:strU l = S at *
 have HS:=Lib.hid hS
 clear hS
 go_enter Tryz.func88,Tryz.ntmps88
 go_wp2_with fail
 go_loopw [3] (fun cv wr=>∃ pos cc,cv = .int .i64 (cc:Nat) ∧ cc < 6 ∧ (pos = 0 ∨ l.isEmpty = false) ∧ wr.heap[w.heap.size]? = some (.stringIter S pos) ∧ Below w.heap.size w wr ∧ Hid (clsL cc (l.drop pos) = clsL 2 l)) (fun _ wr=>S.size - wr.iterPos w.heap.size)
 case atStart=>exact ⟨0,2,rfl,by decide,.inl rfl,World.iter_heap _ _ _,(Below.refl _ _).alloc (Nat.le_refl _) _,rfl⟩
 case round =>
  obtain ⟨pos,cc,rfl,hcc,hpe,hit,hbw,hr⟩:=hrel
  have hsz:w.heap.size < wr.heap.size:=(Array.getElem?_eq_some_iff.1 hit).1
  by_cases hp:pos < S.size
  ·have hnx:∀ ty,(Instr.next (.pointer (some ⟨w.heap.size,0,none⟩)) true ty).run Tryz.prog wr = _:=fun ty=>Lib.run_next_any_at wr w.heap.size S pos ty hit hp
   have hwd:=width_pos S pos hp
   have hst:=hr.out
   have hne:l.drop pos ≠ []:=by
    intro h
    have:=congrArg List.length h
    rw [List.length_drop] at this
    have:=HZ.out
    simp at *;omega
   rw [clsL_step _ _ hne,List.drop_drop,HD.out pos] at hst
   have HST:=Lib.hid hst
   have HIT:=Lib.hid hit
   generalize hw2:wr.iterAt w.heap.size S (pos + (Utf8.decode S pos).2) = w2 at hnx
   have hit2:w2.heap[w.heap.size]? = some (.stringIter S (pos + (Utf8.decode S pos).2)):=by rw [← hw2];exact Lib.iterAt_heap wr w.heap.size S pos _ hit
   have hbw2:Below w.heap.size w w2:=by rw [← hw2];exact Lib.below_iterAt hbw (by omega) S _
   have hsz2:w2.heap.size = wr.heap.size:=by rw [← hw2,Lib.iterAt_size]
   clear hw2 hit hbw hst hne hr
   have HC:=Lib.hid (HI.out cc (Utf8.decode S pos).1 w2 hcc hbw2)
   have hle:l.isEmpty = false:=by
    cases hq:l with
    | nil=>have:=HZ.out;rw [hq,List.length_nil] at this;omega
    | cons _ _=>rfl
   have HLE:=Lib.hid hle
   clear hle hpe hcc
   generalize (Utf8.decode S pos).1 = r at *
   generalize (Utf8.decode S pos).2 = wd at *
   cases hb:isR (rng cc) r with
   | false =>
    rw [hb] at HC HST
    go_wp2_with fail
    (with_reducible refine HC.out.mono ?_)
    rintro e w3 ⟨rfl,hb3⟩
    go_wp2_with fail
    go_ret
    exact ⟨ret_bool (by rw [HE.out,← HST.out];simp),hbw2.trans (hb3.mono hbw2.size)⟩
   | true =>
    rw [hb] at HC HST
    go_wp2_with fail
    (with_reducible refine HC.out.mono ?_)
    rintro e w3 ⟨rfl,hb3⟩
    have hit3:=(hb3.block w.heap.size (by omega)).trans hit2
    go_wp2_with fail
    go_roundw
    case rel=>exact ⟨pos + wd,3,rfl,by decide,.inr HLE.out,hit3,hbw2.trans (hb3.mono hbw2.size),by have:=HST.out;rw [Bool.true_and] at this;exact this⟩
    case measure =>
     have e1:w3.iterPos w.heap.size = pos + wd:=by unfold World.iterPos;rw [hit3]
     have e2:wr.iterPos w.heap.size = pos:=by unfold World.iterPos;rw [HIT.out]
     rw [e1,e2]
     omega
  ·have hnx:∀ ty,(Instr.next (.pointer (some ⟨w.heap.size,0,none⟩)) true ty).run Tryz.prog wr = _:=fun ty=>Lib.run_next_end_at wr w.heap.size S pos ty hit hp
   have hst:=hr.out
   rw [List.drop_of_length_le (by have:=HZ.out;omega)] at hst
   have HST:=Lib.hid hst
   clear hst hr
   clear hpe hcc
   cases hq:l.isEmpty with
   | true =>
    rw [hq] at hse HE
    have HE2:=HE
    clear hq
    go_wp2_with fail
    go_ret
    exact ⟨ret_bool (by rw [HE2.out];rfl),hbw⟩
   | false =>
    rw [hq] at hse HE
    have HE2:=HE
    clear hq
    go_wp2_with fail
    (with_reducible refine (HV.out _ hbw).mono ?_)
    rintro e w3 ⟨rfl,hb3⟩
    go_wp2_with fail
    go_ret
    exact ⟨ret_bool (by rw [HE2.out,← HST.out];simp [clsL_nil]),hbw.trans (hb3.mono hbw.size)⟩
end Go.Proofs.YtgjokdngbocehaaGreatDoor
namespace Go.Proofs.YtgjokdngbocehaaGreatDoor
open Go.RowKit
structure EnvT (w:World):Prop where
 rng:RangesAt w 2
 tab:Lib.Utf8Tabs 0 1 w
theorem EnvT.below {w w':World} (h:EnvT w) (hb:Below w.heap.size w w'):EnvT w':=⟨h.rng.below hb,Utf8Tabs_below h.tab hb⟩
theorem nameL_any (l:List UInt8) (w:World) (hl:l.length ≤ 1048576) (hE:EnvT w) :
  Calls Tryz.prog 88 #[.string (strL l)] w fun e w'=>e = .returned (.bool (nameB l)) ∧ Below w.heap.size w w':=Name_any l w (by omega) hE.rng hE.tab
theorem strL_isE2 (l:List UInt8):(strL l).toList.isEmpty = l.isEmpty:=strU_empty l
set_option maxRecDepth 100000 in
set_option maxHeartbeats 1000000 in
theorem goodText_any (l:List UInt8) (w:World) (hl:l.length ≤ 1048576) (hE:EnvT w) :
  Calls Tryz.prog 116 #[.string (strL l)] w fun e w'=>e = .returned (.bool (goodTB l)) ∧ Below w.heap.size w w':=by
 have HV:Hid (∀ W,Below w.heap.size w W → Calls Tryz.prog 106 #[.string (strL l)] W fun e w'=>e = .returned (.bool (Lib.validD l)) ∧ Below W.heap.size W w'):=Lib.hid fun W hW=>by
  have:=Valid_any (strL l) W (by rw [strL_size];omega) (Utf8Tabs_below hE.tab hW)
  rw [strL_data] at this
  exact this
 have HC:Hid (∀ (c:UInt8) W,Calls Tryz.prog 142 #[.string (strL l),.string ⟨#[c]⟩] W fun e w'=>e = .returned (.bool (decide (0 ≤ Lib.indexByte l c))) ∧ w' = W):=Lib.hid fun c W=>by
  have:=Tryz.strings_Contains_one (strL l) c W
  rw [strL_data] at this
  exact this
 unfold goodTB
 generalize Lib.validD l = V at *
 have HC1:Hid (∀ W,Calls Tryz.prog 142 #[.string (strL l),.string ⟨#[39]⟩] W fun e w'=>e = .returned (.bool (decide (0 ≤ Lib.indexByte l 39))) ∧ w' = W):=Lib.hid (HC.out 39)
 have HC2:Hid (∀ W,Calls Tryz.prog 142 #[.string (strL l),.string ⟨#[34]⟩] W fun e w'=>e = .returned (.bool (decide (0 ≤ Lib.indexByte l 34))) ∧ w' = W):=Lib.hid (HC.out 34)
 clear HC
 generalize decide (0 ≤ Lib.indexByte l 39) = P at *
 generalize decide (0 ≤ Lib.indexByte l 34) = Q at *
 go_enter Tryz.func116,Tryz.ntmps116
 go_wp2_with fail
 (with_reducible refine (HV.out _ (Below.refl _ _)).mono ?_)
 rintro e w1 ⟨rfl,hb⟩
 have HB:=Lib.hid hb
 clear hb
 cases V with
 | false =>
  go_wp2_with fail
  go_ret
  exact ⟨rfl,HB.out⟩
 | true =>
  go_wp2_with fail
  (with_reducible refine (HC1.out _).mono ?_)
  rintro e w2 ⟨rfl,rfl⟩
  cases P with
  | false =>
   go_wp2_with fail
   go_ret
   exact ⟨rfl,HB.out⟩
  | true =>
   go_wp2_with fail
   (with_reducible refine (HC2.out _).mono ?_)
   rintro e w3 ⟨rfl,rfl⟩
   go_wp2_with fail
   go_ret
   exact ⟨by cases Q <;> rfl,HB.out⟩
end Go.Proofs.YtgjokdngbocehaaGreatDoor
namespace Go.Proofs.YtgjokdngbocehaaGreatDoor
open Go.RowKit
set_option maxRecDepth 100000 in
set_option maxHeartbeats 2000000 in
theorem indexStep_any (f c:Nat) (a:Option Addr) (l:List PS) (p:PS → Bool) (w:World) (h:SsAt f w a l) (hn:l.length ≤ 1048576)
  (hF:∀ (x:PS) (cs:List Value) (W:World),x ∈ l → Below w.heap.size w W → StepAt (XAt f) W x cs → Calls Tryz.prog 55 #[.agg cs.toArray] W fun e w'=>e = .returned (.bool (p x)) ∧ Below W.heap.size W w') :
  Calls Tryz.prog 87 #[.slice a l.length c,.func (.func 55) #[] #[]] w fun e w'=>∃ r:Int,e = .returned (.int .i64 r) ∧ decide (0 ≤ r) = l.any p ∧ Below w.heap.size w w':=by
 have HH:=Lib.hid h
 have HF:=Lib.hid hF
 have HL:Hid (∀ i,i < l.length → (∀ j (hj:j < l.length),j < i → p l[j] = false) → ∀ hi:i < l.length,p l[i] = true → decide ((0:Int) ≤ (i:Int)) = l.any p):=Lib.hid fun i hi _ hi2 hp=>by
  rw [decide_eq_true (by omega)]
  exact (List.any_eq_true.2 ⟨l[i],List.getElem_mem hi,hp⟩).symm
 have HNO:Hid ((∀ j (hj:j < l.length),p l[j] = false) → decide ((0:Int) ≤ -1) = l.any p):=Lib.hid fun hno=>by
  rw [decide_eq_false (by omega)]
  refine (List.any_eq_false.2 fun x hx=>?_).symm
  obtain ⟨j,hj,rfl⟩:=List.getElem_of_mem hx
  rw [hno j hj];decide
 clear h hF
 obtain ⟨n,hnl⟩:∃ n,l.length = n:=⟨_,rfl⟩
 rw [hnl] at hn ⊢
 have HN:=Lib.hid hnl
 clear hnl
 go_enter Tryz.func87,Tryz.ntmps87
 go_wp2_with fail
 go_loopw [8] (fun iv wr=>∃ i:Nat,iv = .int .i64 i ∧ i ≤ n ∧ Hid (Below w.heap.size w wr ∧ ∀ j (hj:j < l.length),j < i → p l[j] = false)) (fun iv _=>n - (intOf iv).toNat)
 case atStart=>exact ⟨0,rfl,Nat.zero_le _,Lib.hid ⟨Below.refl _ _,fun j _ h=>absurd h (Nat.not_lt_zero _)⟩⟩
 case round =>
  obtain ⟨i,rfl,hi,HR⟩:=hrel
  by_cases hin:i < n
  ·have hil:i < l.length:=by rw [HN.out];exact hin
   obtain ⟨b,o,wa,wc,rfl,hb,hp,hcs⟩:=HH.out.get' i hil
   obtain ⟨k0,k1,k2,k3⟩:=hcs wr HR.out.1
   obtain ⟨R,hR⟩:∃ R,p l[i] = R:=⟨_,rfl⟩
   have HP:Hid (Calls Tryz.prog 55 #[.agg #[.int .i64 l[i].axis,.int .i64 l[i].test,.string (strL l[i].name),.slice wa l[i].wher.length wc]] wr fun e w'=>e = .returned (.bool R) ∧ Below wr.heap.size wr w'):=Lib.hid ((HF.out l[i] _ wr (List.getElem_mem hil) HR.out.1 (hp.turn HR.out.1 fun _ _=>XAt.turn HR.out.1 (Nat.le_refl _))).mono fun _ _ h=>⟨h.1.trans (congrArg (fun b=>Ending.returned (.bool b)) hR),h.2⟩)
   clear hp hcs hb
   have HIL:=Lib.hid hil
   have h1:(i:Int) < (n:Int):=by omega
   have h2:(0:Int) ≤ (i:Int):=by omega
   have ew:IntKind.i64.wrap ((i:Int) + 1) = (i:Int) + 1:=IntWalk.i64_in _ (by omega)
   have HRR:=Lib.hid hR
   clear hR
   go_wp2_with fail
   (with_reducible refine HP.out.mono ?_)
   rintro e w2 ⟨rfl,hb2⟩
   have HB2:=Lib.hid (HR.out.1.trans (hb2.mono HR.out.1.size))
   clear hb2
   cases R with
   | true =>
    have HFI:=Lib.hid (HL.out i HIL.out HR.out.2 HIL.out HRR.out)
    go_wp2_with fail
    go_ret
    exact ⟨_,rfl,HFI.out,HB2.out⟩
   | false =>
    go_wp2_with fail
    go_roundw
    case rel=>exact ⟨i + 1,by go_num,by omega,Lib.hid ⟨HB2.out,fun j hj hji=>by
     rcases Nat.lt_or_ge j i with h | h
     ·exact HR.out.2 j hj h
     ·have e:j = i:=by omega
      subst e;exact HRR.out⟩⟩
    case measure=>simp [intOf];omega
  ·have h1:(n:Int) ≤ (i:Int):=by omega
   have HFI:=Lib.hid (HNO.out fun j hj=>HR.out.2 j hj (by have:=HN.out;omega))
   go_wp2_with fail
   go_ret
   exact ⟨_,rfl,HFI.out,HR.out.1⟩
set_option maxRecDepth 100000 in
set_option maxHeartbeats 2000000 in
theorem containsStep_any (f c:Nat) (a:Option Addr) (l:List PS) (p:PS → Bool) (w:World) (h:SsAt f w a l) (hn:l.length ≤ 1048576)
  (hF:∀ (x:PS) (cs:List Value) (W:World),x ∈ l → Below w.heap.size w W → StepAt (XAt f) W x cs → Calls Tryz.prog 55 #[.agg cs.toArray] W fun e w'=>e = .returned (.bool (p x)) ∧ Below W.heap.size W w') :
  Calls Tryz.prog 54 #[.slice a l.length c,.func (.func 55) #[] #[]] w fun e w'=>e = .returned (.bool (l.any p)) ∧ Below w.heap.size w w':=by
 have HI:=Lib.hid (indexStep_any f c a l p w h hn hF)
 clear h hn hF
 generalize l.any p = R at *
 go_enter Tryz.func54,Tryz.ntmps54
 go_wp2_with fail
 (with_reducible refine HI.out.mono ?_)
 rintro e w2 ⟨r,rfl,hr,hb⟩
 have HR:=Lib.hid hr
 clear hr
 go_wp2_with fail
 go_ret
 exact ⟨ret_bool HR.out,hb⟩
set_option maxRecDepth 100000 in
set_option maxHeartbeats 2000000 in
theorem indexWhere_any (f c:Nat) (a:Option Addr) (l:List PX) (p:PX → Bool) (w:World) (h:XsAt f w a l) (hn:l.length ≤ 1048576)
  (hF:∀ (x:PX) (cs:List Value) (W:World),x ∈ l → Below w.heap.size w W → XAt f W x cs → Calls Tryz.prog 90 #[.agg cs.toArray] W fun e w'=>e = .returned (.bool (p x)) ∧ Below W.heap.size W w') :
  Calls Tryz.prog 115 #[.slice a l.length c,.func (.func 90) #[] #[]] w fun e w'=>∃ r:Int,e = .returned (.int .i64 r) ∧ decide (0 ≤ r) = l.any p ∧ Below w.heap.size w w':=by
 have HH:=Lib.hid h
 have HF:=Lib.hid hF
 have HL:Hid (∀ i,i < l.length → (∀ j (hj:j < l.length),j < i → p l[j] = false) → ∀ hi:i < l.length,p l[i] = true → decide ((0:Int) ≤ (i:Int)) = l.any p):=Lib.hid fun i hi _ hi2 hp=>by
  rw [decide_eq_true (by omega)]
  exact (List.any_eq_true.2 ⟨l[i],List.getElem_mem hi,hp⟩).symm
 have HNO:Hid ((∀ j (hj:j < l.length),p l[j] = false) → decide ((0:Int) ≤ -1) = l.any p):=Lib.hid fun hno=>by
  rw [decide_eq_false (by omega)]
  refine (List.any_eq_false.2 fun x hx=>?_).symm
  obtain ⟨j,hj,rfl⟩:=List.getElem_of_mem hx
  rw [hno j hj];decide
 clear h hF
 obtain ⟨n,hnl⟩:∃ n,l.length = n:=⟨_,rfl⟩
 rw [hnl] at hn ⊢
 have HN:=Lib.hid hnl
 clear hnl
 go_enter Tryz.func115,Tryz.ntmps115
 go_wp2_with fail
 go_loopw [8] (fun iv wr=>∃ i:Nat,iv = .int .i64 i ∧ i ≤ n ∧ Hid (Below w.heap.size w wr ∧ ∀ j (hj:j < l.length),j < i → p l[j] = false)) (fun iv _=>n - (intOf iv).toNat)
 case atStart=>exact ⟨0,rfl,Nat.zero_le _,Lib.hid ⟨Below.refl _ _,fun j _ h=>absurd h (Nat.not_lt_zero _)⟩⟩
 case round =>
  obtain ⟨i,rfl,hi,HR⟩:=hrel
  by_cases hin:i < n
  ·have hil:i < l.length:=by rw [HN.out];exact hin
   obtain ⟨b,o,aa,ac,pa,pc,rfl,hb,hp,hcs⟩:=HH.out.get' i hil
   obtain ⟨k0,k1,k2,k3,k4,k5,k6⟩:=hcs wr HR.out.1
   obtain ⟨R,hR⟩:∃ R,p l[i] = R:=⟨_,rfl⟩
   have HP:Hid (Calls Tryz.prog 90 #[.agg #[.int .i64 l[i].op,.slice aa l[i].args.length ac,.slice pa l[i].path.length pc,.string (strL l[i].attr),.int .i64 l[i].cmp,.string (strL l[i].text),.int .i64 l[i].num]] wr fun e w'=>e = .returned (.bool R) ∧ Below wr.heap.size wr w'):=Lib.hid ((HF.out l[i] _ wr (List.getElem_mem hil) HR.out.1 (XAt.turn HR.out.1 (Nat.le_refl _) hp)).mono fun _ _ h=>⟨h.1.trans (congrArg (fun b=>Ending.returned (.bool b)) hR),h.2⟩)
   clear hp hcs hb
   have HIL:=Lib.hid hil
   have h1:(i:Int) < (n:Int):=by omega
   have h2:(0:Int) ≤ (i:Int):=by omega
   have ew:IntKind.i64.wrap ((i:Int) + 1) = (i:Int) + 1:=IntWalk.i64_in _ (by omega)
   have HRR:=Lib.hid hR
   clear hR
   go_wp2_with fail
   (with_reducible refine HP.out.mono ?_)
   rintro e w2 ⟨rfl,hb2⟩
   have HB2:=Lib.hid (HR.out.1.trans (hb2.mono HR.out.1.size))
   clear hb2
   cases R with
   | true =>
    have HFI:=Lib.hid (HL.out i HIL.out HR.out.2 HIL.out HRR.out)
    go_wp2_with fail
    go_ret
    exact ⟨_,rfl,HFI.out,HB2.out⟩
   | false =>
    go_wp2_with fail
    go_roundw
    case rel=>exact ⟨i + 1,by go_num,by omega,Lib.hid ⟨HB2.out,fun j hj hji=>by
     rcases Nat.lt_or_ge j i with h | h
     ·exact HR.out.2 j hj h
     ·have e:j = i:=by omega
      subst e;exact HRR.out⟩⟩
    case measure=>simp [intOf];omega
  ·have h1:(n:Int) ≤ (i:Int):=by omega
   have HFI:=Lib.hid (HNO.out fun j hj=>HR.out.2 j hj (by have:=HN.out;omega))
   go_wp2_with fail
   go_ret
   exact ⟨_,rfl,HFI.out,HR.out.1⟩
set_option maxRecDepth 100000 in
set_option maxHeartbeats 2000000 in
theorem containsWhere_any (f c:Nat) (a:Option Addr) (l:List PX) (p:PX → Bool) (w:World) (h:XsAt f w a l) (hn:l.length ≤ 1048576)
  (hF:∀ (x:PX) (cs:List Value) (W:World),x ∈ l → Below w.heap.size w W → XAt f W x cs → Calls Tryz.prog 90 #[.agg cs.toArray] W fun e w'=>e = .returned (.bool (p x)) ∧ Below W.heap.size W w') :
  Calls Tryz.prog 89 #[.slice a l.length c,.func (.func 90) #[] #[]] w fun e w'=>e = .returned (.bool (l.any p)) ∧ Below w.heap.size w w':=by
 have HI:=Lib.hid (indexWhere_any f c a l p w h hn hF)
 clear h hn hF
 generalize l.any p = R at *
 go_enter Tryz.func89,Tryz.ntmps89
 go_wp2_with fail
 (with_reducible refine HI.out.mono ?_)
 rintro e w2 ⟨r,rfl,hr,hb⟩
 have HR:=Lib.hid hr
 clear hr
 go_wp2_with fail
 go_ret
 exact ⟨ret_bool HR.out,hb⟩
set_option maxRecDepth 100000 in
set_option maxHeartbeats 2000000 in
theorem indexArgs_any (f c:Nat) (a:Option Addr) (l:List PX) (p:PX → Bool) (w:World) (h:XsAt f w a l) (hn:l.length ≤ 1048576)
  (hF:∀ (x:PX) (cs:List Value) (W:World),x ∈ l → Below w.heap.size w W → XAt f W x cs → Calls Tryz.prog 117 #[.agg cs.toArray] W fun e w'=>e = .returned (.bool (p x)) ∧ Below W.heap.size W w') :
  Calls Tryz.prog 115 #[.slice a l.length c,.func (.func 117) #[] #[]] w fun e w'=>∃ r:Int,e = .returned (.int .i64 r) ∧ decide (0 ≤ r) = l.any p ∧ Below w.heap.size w w':=by
 have HH:=Lib.hid h
 have HF:=Lib.hid hF
 have HL:Hid (∀ i,i < l.length → (∀ j (hj:j < l.length),j < i → p l[j] = false) → ∀ hi:i < l.length,p l[i] = true → decide ((0:Int) ≤ (i:Int)) = l.any p):=Lib.hid fun i hi _ hi2 hp=>by
  rw [decide_eq_true (by omega)]
  exact (List.any_eq_true.2 ⟨l[i],List.getElem_mem hi,hp⟩).symm
 have HNO:Hid ((∀ j (hj:j < l.length),p l[j] = false) → decide ((0:Int) ≤ -1) = l.any p):=Lib.hid fun hno=>by
  rw [decide_eq_false (by omega)]
  refine (List.any_eq_false.2 fun x hx=>?_).symm
  obtain ⟨j,hj,rfl⟩:=List.getElem_of_mem hx
  rw [hno j hj];decide
 clear h hF
 obtain ⟨n,hnl⟩:∃ n,l.length = n:=⟨_,rfl⟩
 rw [hnl] at hn ⊢
 have HN:=Lib.hid hnl
 clear hnl
 go_enter Tryz.func115,Tryz.ntmps115
 go_wp2_with fail
 go_loopw [8] (fun iv wr=>∃ i:Nat,iv = .int .i64 i ∧ i ≤ n ∧ Hid (Below w.heap.size w wr ∧ ∀ j (hj:j < l.length),j < i → p l[j] = false)) (fun iv _=>n - (intOf iv).toNat)
 case atStart=>exact ⟨0,rfl,Nat.zero_le _,Lib.hid ⟨Below.refl _ _,fun j _ h=>absurd h (Nat.not_lt_zero _)⟩⟩
 case round =>
  obtain ⟨i,rfl,hi,HR⟩:=hrel
  by_cases hin:i < n
  ·have hil:i < l.length:=by rw [HN.out];exact hin
   obtain ⟨b,o,aa,ac,pa,pc,rfl,hb,hp,hcs⟩:=HH.out.get' i hil
   obtain ⟨k0,k1,k2,k3,k4,k5,k6⟩:=hcs wr HR.out.1
   obtain ⟨R,hR⟩:∃ R,p l[i] = R:=⟨_,rfl⟩
   have HP:Hid (Calls Tryz.prog 117 #[.agg #[.int .i64 l[i].op,.slice aa l[i].args.length ac,.slice pa l[i].path.length pc,.string (strL l[i].attr),.int .i64 l[i].cmp,.string (strL l[i].text),.int .i64 l[i].num]] wr fun e w'=>e = .returned (.bool R) ∧ Below wr.heap.size wr w'):=Lib.hid ((HF.out l[i] _ wr (List.getElem_mem hil) HR.out.1 (XAt.turn HR.out.1 (Nat.le_refl _) hp)).mono fun _ _ h=>⟨h.1.trans (congrArg (fun b=>Ending.returned (.bool b)) hR),h.2⟩)
   clear hp hcs hb
   have HIL:=Lib.hid hil
   have h1:(i:Int) < (n:Int):=by omega
   have h2:(0:Int) ≤ (i:Int):=by omega
   have ew:IntKind.i64.wrap ((i:Int) + 1) = (i:Int) + 1:=IntWalk.i64_in _ (by omega)
   have HRR:=Lib.hid hR
   clear hR
   go_wp2_with fail
   (with_reducible refine HP.out.mono ?_)
   rintro e w2 ⟨rfl,hb2⟩
   have HB2:=Lib.hid (HR.out.1.trans (hb2.mono HR.out.1.size))
   clear hb2
   cases R with
   | true =>
    have HFI:=Lib.hid (HL.out i HIL.out HR.out.2 HIL.out HRR.out)
    go_wp2_with fail
    go_ret
    exact ⟨_,rfl,HFI.out,HB2.out⟩
   | false =>
    go_wp2_with fail
    go_roundw
    case rel=>exact ⟨i + 1,by go_num,by omega,Lib.hid ⟨HB2.out,fun j hj hji=>by
     rcases Nat.lt_or_ge j i with h | h
     ·exact HR.out.2 j hj h
     ·have e:j = i:=by omega
      subst e;exact HRR.out⟩⟩
    case measure=>simp [intOf];omega
  ·have h1:(n:Int) ≤ (i:Int):=by omega
   have HFI:=Lib.hid (HNO.out fun j hj=>HR.out.2 j hj (by have:=HN.out;omega))
   go_wp2_with fail
   go_ret
   exact ⟨_,rfl,HFI.out,HR.out.1⟩
set_option maxRecDepth 100000 in
set_option maxHeartbeats 2000000 in
theorem containsArgs_any (f c:Nat) (a:Option Addr) (l:List PX) (p:PX → Bool) (w:World) (h:XsAt f w a l) (hn:l.length ≤ 1048576)
  (hF:∀ (x:PX) (cs:List Value) (W:World),x ∈ l → Below w.heap.size w W → XAt f W x cs → Calls Tryz.prog 117 #[.agg cs.toArray] W fun e w'=>e = .returned (.bool (p x)) ∧ Below W.heap.size W w') :
  Calls Tryz.prog 89 #[.slice a l.length c,.func (.func 117) #[] #[]] w fun e w'=>e = .returned (.bool (l.any p)) ∧ Below w.heap.size w w':=by
 have HI:=Lib.hid (indexArgs_any f c a l p w h hn hF)
 clear h hn hF
 generalize l.any p = R at *
 go_enter Tryz.func89,Tryz.ntmps89
 go_wp2_with fail
 (with_reducible refine HI.out.mono ?_)
 rintro e w2 ⟨r,rfl,hr,hb⟩
 have HR:=Lib.hid hr
 clear hr
 go_wp2_with fail
 go_ret
 exact ⟨ret_bool HR.out,hb⟩
end Go.Proofs.YtgjokdngbocehaaGreatDoor
namespace Go.Proofs.YtgjokdngbocehaaGreatDoor
open Go.RowKit
def GoodX (f:Nat):Prop:=∀ (x:PX) (cs:List Value) (W:World),EnvT W → XAt f W x cs → Calls Tryz.prog 91 #[.agg cs.toArray] W fun e w'=>e = .returned (.bool (goodXB f x)) ∧ Below W.heap.size W w'
theorem XAt.form {f:Nat} {w:World} {x:PX} {cs:List Value} (h:XAt f w x cs):∃ aa ac pa pc,cs = exprC x aa ac pa pc:=by
 cases f with
 | zero=>exact h.elim
 | succ f=>obtain ⟨a,c,p,d,h1,_⟩:=h;exact ⟨a,c,p,d,h1⟩
theorem StepAt.form {P:World → PX → List Value → Prop} {w:World} {s:PS} {cs:List Value} (h:StepAt P w s cs):∃ wa wc,cs = stepC s wa wc:=by
 obtain ⟨a,c,h1,_⟩:=h;exact ⟨a,c,h1⟩
theorem any_not {α:Type} (l:List α) (p:α → Bool):(!l.any fun x=>!p x) = l.all p:=by
 induction l with
 | nil=>rfl
 | cons x l ih=>simp only [List.any_cons,List.all_cons,← ih];cases p x <;> simp
set_option maxRecDepth 100000 in
set_option maxHeartbeats 2000000 in
theorem gstep1_any {f:Nat} (GX:GoodX f) (x:PX) (cs:List Value) (w:World) (hE:EnvT w) (h:XAt f w x cs) :
  Calls Tryz.prog 90 #[.agg cs.toArray] w fun e w'=>e = .returned (.bool (!goodXB f x)) ∧ Below w.heap.size w w':=by
 obtain ⟨aa,ac,pa,pc,rfl⟩:=h.form
 have hb0:=(Below.refl w.heap.size w).alloc (Nat.le_refl _) (.cells (exprC x aa ac pa pc).toArray 42)
 have HX:=Lib.hid (GX x _ _ (hE.below hb0) (h.turn hb0 (Nat.le_refl _)))
 have HB:=Lib.hid hb0
 clear hb0 h hE
 unfold exprC at *
 generalize goodXB f x = R at *
 go_enter Tryz.func90,Tryz.ntmps90
 go_wp2_with fail
 (with_reducible refine HX.out.mono ?_)
 rintro e w2 ⟨rfl,hb⟩
 go_wp2_with fail
 go_ret
 exact ⟨rfl,HB.out.trans (hb.mono HB.out.size)⟩
set_option maxRecDepth 100000 in
set_option maxHeartbeats 2000000 in
theorem gexpr1_any {f:Nat} (GX:GoodX f) (x:PX) (cs:List Value) (w:World) (hE:EnvT w) (h:XAt f w x cs) :
  Calls Tryz.prog 117 #[.agg cs.toArray] w fun e w'=>e = .returned (.bool (!goodXB f x)) ∧ Below w.heap.size w w':=by
 obtain ⟨aa,ac,pa,pc,rfl⟩:=h.form
 have hb0:=(Below.refl w.heap.size w).alloc (Nat.le_refl _) (.cells (exprC x aa ac pa pc).toArray 42)
 have HX:=Lib.hid (GX x _ _ (hE.below hb0) (h.turn hb0 (Nat.le_refl _)))
 have HB:=Lib.hid hb0
 clear hb0 h hE
 unfold exprC at *
 generalize goodXB f x = R at *
 go_enter Tryz.func117,Tryz.ntmps117
 go_wp2_with fail
 (with_reducible refine HX.out.mono ?_)
 rintro e w2 ⟨rfl,hb⟩
 go_wp2_with fail
 go_ret
 exact ⟨rfl,HB.out.trans (hb.mono HB.out.size)⟩
set_option maxRecDepth 100000 in
set_option maxHeartbeats 4000000 in
theorem goodStep_any {f:Nat} (GX:GoodX f) (s:PS) (cs:List Value) (w:World) (hE:EnvT w) (h:StepAt (XAt f) w s cs) :
  Calls Tryz.prog 56 #[.agg cs.toArray] w fun e w'=>e = .returned (.bool (goodSB (goodXB f) s)) ∧ Below w.heap.size w w':=by
 obtain ⟨wa,wc,rfl⟩:=h.form
 obtain ⟨wa',wc',hcs,_,_,_,hnl,hwl,hrow⟩:=h
 have hwa:wa' = wa:=by have h3:=congrArg (fun l=>l[3]?) hcs;simp [stepC] at h3;exact h3.1.symm
 subst hwa
 have hb0:=(Below.refl w.heap.size w).alloc (Nat.le_refl _) (.cells (stepC s wa' wc).toArray 76)
 have HB0:=Lib.hid hb0
 have HCW:Hid (∀ W,Below w.heap.size w W → Calls Tryz.prog 89 #[.slice wa' s.wher.length wc,.func (.func 90) #[] #[]] W fun e w'=>e = .returned (.bool (s.wher.any fun x=>!goodXB f x)) ∧ Below W.heap.size W w'):=Lib.hid fun W hW =>
  containsWhere_any f wc wa' s.wher (fun x=>!goodXB f x) W (XsAt.below hrow hW) hwl fun x cs W' _ hW' hx=>gstep1_any GX x cs W' ((hE.below hW).below hW') hx
 have HNM:Hid (∀ W,Below w.heap.size w W → Calls Tryz.prog 88 #[.string (strL s.name)] W fun e w'=>e = .returned (.bool (nameB s.name)) ∧ Below W.heap.size W w'):=Lib.hid fun W hW=>nameL_any s.name W hnl (hE.below hW)
 have hse:=strL_isE2 s.name
 clear hb0 hE hrow hcs hnl
 obtain ⟨R,hR⟩:∃ R,goodSB (goodXB f) s = R:=⟨_,rfl⟩
 rw [hR]
 have HR:Hid (((decide (0 ≤ s.axis) && decide (s.axis ≤ 3) && decide (0 ≤ s.test) && decide (s.test ≤ 3)) && (if s.test = 0 then nameB s.name else s.name.isEmpty) && !(s.wher.any fun x=>!goodXB f x)) = R):=Lib.hid (by rw [any_not];exact hR)
 clear hR
 unfold stepC at *
 generalize s.axis = ax at *
 generalize s.test = te at *
 generalize (s.wher.any fun x=>!goodXB f x) = Q at *
 generalize nameB s.name = V at *
 generalize s.name.isEmpty = E at *
 generalize strL s.name = nm at *
 generalize s.wher.length = n at *
 by_cases g1:ax < 0
 ·have HF:Hid (false = R):=Lib.hid (by rw [← HR.out,decide_eq_false (show ¬ 0 ≤ ax by omega)];simp)
  go_enter Tryz.func56,Tryz.ntmps56
  go_wp2_with fail
  go_ret
  exact ⟨ret_bool HF.out,HB0.out⟩
 have g1':0 ≤ ax:=by omega
 by_cases g2:3 < ax
 ·have HF:Hid (false = R):=Lib.hid (by rw [← HR.out,decide_eq_false (show ¬ ax ≤ 3 by omega)];simp)
  go_enter Tryz.func56,Tryz.ntmps56
  go_wp2_with fail
  go_ret
  exact ⟨ret_bool HF.out,HB0.out⟩
 have g2':ax ≤ 3:=by omega
 by_cases g3:te < 0
 ·have HF:Hid (false = R):=Lib.hid (by rw [← HR.out,decide_eq_false (show ¬ 0 ≤ te by omega)];simp)
  go_enter Tryz.func56,Tryz.ntmps56
  go_wp2_with fail
  go_ret
  exact ⟨ret_bool HF.out,HB0.out⟩
 have g3':0 ≤ te:=by omega
 by_cases g4:3 < te
 ·have HF:Hid (false = R):=Lib.hid (by rw [← HR.out,decide_eq_false (show ¬ te ≤ 3 by omega)];simp)
  go_enter Tryz.func56,Tryz.ntmps56
  go_wp2_with fail
  go_ret
  exact ⟨ret_bool HF.out,HB0.out⟩
 have g4':te ≤ 3:=by omega
 rw [decide_eq_true g1',decide_eq_true g2',decide_eq_true g3',decide_eq_true g4'] at HR
 simp only [Bool.true_and] at HR
 by_cases g5:te = 0
 ·subst g5
  rw [if_pos rfl] at HR
  clear g3 g4
  go_enter Tryz.func56,Tryz.ntmps56
  go_wp2_with fail
  (with_reducible refine (HNM.out _ HB0.out).mono ?_)
  rintro e w2 ⟨rfl,hb⟩
  have HB2:=Lib.hid (HB0.out.trans (hb.mono HB0.out.size))
  have HKB:=Lib.hid hb
  have q0:∀ j,w2.cell? ⟨w.heap.size,j,none⟩ = (w.alloc (.cells #[.int .i64 ax,.int .i64 0,.string nm,.slice wa' n wc] 76)).cell? ⟨w.heap.size,j,none⟩:=fun j=>HKB.out.cell (p:=⟨w.heap.size,j,none⟩) (by simp)
  have c1:w2.cell? ⟨w.heap.size,1,none⟩ = some (.int .i64 0):=by rw [q0 1,cell_heap (heap_alloc_new w _)];rfl
  have c2:w2.cell? ⟨w.heap.size,2,none⟩ = some (.string nm):=by rw [q0 2,cell_heap (heap_alloc_new w _)];rfl
  have c3:w2.cell? ⟨w.heap.size,3,none⟩ = some (.slice wa' n wc):=by rw [q0 3,cell_heap (heap_alloc_new w _)];rfl
  clear hb q0
  cases V with
  | false =>
   go_wp2_with fail
   go_ret
   exact ⟨ret_bool HR.out,HB2.out⟩
  | true =>
   go_wp2_with fail
   (with_reducible refine (HCW.out _ HB2.out).mono ?_)
   rintro e w3 ⟨rfl,hb3⟩
   go_wp2_with fail
   go_ret
   exact ⟨ret_bool HR.out,HB2.out.trans (hb3.mono HB2.out.size)⟩
 ·rw [if_neg g5] at HR
  have t0:((te:Int) == 0) = false:=by simpa using g5
  have t1:((te:Int) != 0) = true:=by simpa using g5
  clear g3 g4 g5
  cases E with
  | false =>
   go_enter Tryz.func56,Tryz.ntmps56
   go_wp2_with fail
   go_ret
   exact ⟨ret_bool HR.out,HB0.out⟩
  | true =>
   go_enter Tryz.func56,Tryz.ntmps56
   go_wp2_with fail
   (with_reducible refine (HCW.out _ HB0.out).mono ?_)
   rintro e w3 ⟨rfl,hb3⟩
   go_wp2_with fail
   go_ret
   exact ⟨ret_bool HR.out,HB0.out.trans (hb3.mono HB0.out.size)⟩
set_option maxRecDepth 100000 in
set_option maxHeartbeats 2000000 in
theorem gpath1_any {f:Nat} (GX:GoodX f) (s:PS) (cs:List Value) (w:World) (hE:EnvT w) (h:StepAt (XAt f) w s cs) :
  Calls Tryz.prog 55 #[.agg cs.toArray] w fun e w'=>e = .returned (.bool (!goodSB (goodXB f) s)) ∧ Below w.heap.size w w':=by
 obtain ⟨wa,wc,rfl⟩:=h.form
 have hb0:=(Below.refl w.heap.size w).alloc (Nat.le_refl _) (.cells (stepC s wa wc).toArray 76)
 have HX:=Lib.hid (goodStep_any GX s _ _ (hE.below hb0) (h.turn hb0 fun _ _=>XAt.turn hb0 (Nat.le_refl _)))
 have HB:=Lib.hid hb0
 clear hb0 h hE
 unfold stepC at *
 generalize goodSB (goodXB f) s = R at *
 go_enter Tryz.func55,Tryz.ntmps55
 go_wp2_with fail
 (with_reducible refine HX.out.mono ?_)
 rintro e w2 ⟨rfl,hb⟩
 go_wp2_with fail
 go_ret
 exact ⟨rfl,HB.out.trans (hb.mono HB.out.size)⟩
set_option maxRecDepth 100000 in
set_option maxHeartbeats 2000000 in
theorem goodPath_any {f:Nat} (GX:GoodX f) (a:Option Addr) (c:Nat) (ss:List PS) (w:World) (hE:EnvT w) (h:SsAt f w a ss) (hn:ss.length ≤ 1048576) :
  Calls Tryz.prog 31 #[.agg #[.slice a ss.length c]] w fun e w'=>e = .returned (.bool (goodPB (goodXB f) ss)) ∧ Below w.heap.size w w':=by
 have hb0:=(Below.refl w.heap.size w).alloc (Nat.le_refl _) (.cells #[.slice a ss.length c] 25)
 have HB0:=Lib.hid hb0
 have HCS:Hid (Calls Tryz.prog 54 #[.slice a ss.length c,.func (.func 55) #[] #[]] (w.alloc (.cells #[.slice a ss.length c] 25)) fun e w'=>e = .returned (.bool (ss.any fun s=>!goodSB (goodXB f) s)) ∧ Below (w.alloc (.cells #[.slice a ss.length c] 25)).heap.size (w.alloc (.cells #[.slice a ss.length c] 25)) w'):=Lib.hid
  (containsStep_any f c a ss (fun s=>!goodSB (goodXB f) s) _ (SsAt.below h hb0) hn fun s cs W' _ hW' hx=>gpath1_any GX s cs W' ((hE.below hb0).below hW') hx)
 obtain ⟨R,hR⟩:∃ R,goodPB (goodXB f) ss = R:=⟨_,rfl⟩
 rw [hR]
 have HR:Hid ((!ss.isEmpty && !(ss.any fun s=>!goodSB (goodXB f) s)) = R):=Lib.hid (by rw [any_not];exact hR)
 clear hR hb0 h hE
 generalize (ss.any fun s=>!goodSB (goodXB f) s) = Q at *
 cases hz:ss.isEmpty with
 | true =>
  have hl:ss.length = 0:=by rw [List.isEmpty_iff.1 hz];rfl
  rw [hz] at HR
  generalize ss.length = n at *
  subst hl
  clear hz
  go_enter Tryz.func31,Tryz.ntmps31
  go_wp2_with fail
  go_ret
  exact ⟨ret_bool HR.out,HB0.out⟩
 | false =>
  have hl:0 < ss.length:=by
   rcases Nat.eq_zero_or_pos ss.length with h | h
   ·rw [List.eq_nil_of_length_eq_zero h] at hz;cases hz
   ·exact h
  rw [hz] at HR
  generalize ss.length = n at *
  have i1:(0:Int) < (n:Int):=by omega
  clear hz
  go_enter Tryz.func31,Tryz.ntmps31
  go_wp2_with fail
  (with_reducible refine HCS.out.mono ?_)
  rintro e w3 ⟨rfl,hb3⟩
  go_wp2_with fail
  go_ret
  exact ⟨ret_bool HR.out,HB0.out.trans (hb3.mono HB0.out.size)⟩
end Go.Proofs.YtgjokdngbocehaaGreatDoor
