/-
  ask.goodText; slices.ContainsFunc over steps and expressions.
-/
import Derived.Test.YtgjokdngbocehaaGreatDoorHsA
import Derived.Test.YtgjokdngbocehaaGreatDoorHsC
import Derived.Test.YtgjokdngbocehaaGreatDoorHsD
import Derived.Test.YtgjokdngbocehaaGreatDoorHsE
import Derived.Test.YtgjokdngbocehaaGreatDoorHsG
import Derived.Test.YtgjokdngbocehaaGreatDoorHsN
namespace Go.Proofs.YtgjokdngbocehaaGreatDoor
open Go.RowKit
structure EnvT (w:World):Prop where
 rng:RangesAt w 2
 tab:Lib.Utf8Tabs 0 1 w
theorem EnvT.below {w w':World} (h:EnvT w) (hb:Below w.heap.size w w'):EnvT w':=⟨h.rng.below hb,Utf8Tabs_below h.tab hb⟩
theorem nameL_any (l:List UInt8) (w:World) (hl:l.length ≤ 1048576) (hE:EnvT w) :
  Calls Tryz.prog 88 #[.string (strL l)] w fun e w'=>e = .returned (.bool (nameB l)) ∧ Below w.heap.size w w':=Name_any l w (by omega) hE.rng hE.tab
theorem strL_isE2 (l:List UInt8):(strL l).toList.isEmpty = l.isEmpty:=strU_empty l
set_option maxRecDepth 100000 in
set_option maxHeartbeats 1000000 in
theorem goodText_any (l:List UInt8) (w:World) (hl:l.length ≤ 1048576) (hE:EnvT w) :
  Calls Tryz.prog 116 #[.string (strL l)] w fun e w'=>e = .returned (.bool (goodTB l)) ∧ Below w.heap.size w w':=by
 have HV:Hid (∀ W,Below w.heap.size w W → Calls Tryz.prog 106 #[.string (strL l)] W fun e w'=>e = .returned (.bool (Lib.validD l)) ∧ Below W.heap.size W w'):=Lib.hid fun W hW=>by
  have:=Valid_any (strL l) W (by rw [strL_size];omega) (Utf8Tabs_below hE.tab hW)
  rw [strL_data] at this
  exact this
 have HC:Hid (∀ (c:UInt8) W,Calls Tryz.prog 142 #[.string (strL l),.string ⟨#[c]⟩] W fun e w'=>e = .returned (.bool (decide (0 ≤ Lib.indexByte l c))) ∧ w' = W):=Lib.hid fun c W=>by
  have:=Tryz.strings_Contains_one (strL l) c W
  rw [strL_data] at this
  exact this
 unfold goodTB
 generalize Lib.validD l = V at *
 have HC1:Hid (∀ W,Calls Tryz.prog 142 #[.string (strL l),.string ⟨#[39]⟩] W fun e w'=>e = .returned (.bool (decide (0 ≤ Lib.indexByte l 39))) ∧ w' = W):=Lib.hid (HC.out 39)
 have HC2:Hid (∀ W,Calls Tryz.prog 142 #[.string (strL l),.string ⟨#[34]⟩] W fun e w'=>e = .returned (.bool (decide (0 ≤ Lib.indexByte l 34))) ∧ w' = W):=Lib.hid (HC.out 34)
 clear HC
 generalize decide (0 ≤ Lib.indexByte l 39) = P at *
 generalize decide (0 ≤ Lib.indexByte l 34) = Q at *
 go_enter Tryz.func116,Tryz.ntmps116
 go_wp2_with fail
 (with_reducible refine (HV.out _ (Below.refl _ _)).mono ?_)
 rintro e w1 ⟨rfl,hb⟩
 have HB:=Lib.hid hb
 clear hb
 cases V with
 | false =>
  go_wp2_with fail
  go_ret
  exact ⟨rfl,HB.out⟩
 | true =>
  go_wp2_with fail
  (with_reducible refine (HC1.out _).mono ?_)
  rintro e w2 ⟨rfl,rfl⟩
  cases P with
  | false =>
   go_wp2_with fail
   go_ret
   exact ⟨rfl,HB.out⟩
  | true =>
   go_wp2_with fail
   (with_reducible refine (HC2.out _).mono ?_)
   rintro e w3 ⟨rfl,rfl⟩
   go_wp2_with fail
   go_ret
   exact ⟨by cases Q <;> rfl,HB.out⟩
end Go.Proofs.YtgjokdngbocehaaGreatDoor
namespace Go.Proofs.YtgjokdngbocehaaGreatDoor
open Go.RowKit
set_option maxRecDepth 100000 in
set_option maxHeartbeats 2000000 in
theorem indexStep_any (f c:Nat) (a:Option Addr) (l:List PS) (p:PS → Bool) (w:World) (h:SsAt f w a l) (hn:l.length ≤ 1048576)
  (hF:∀ (x:PS) (cs:List Value) (W:World),x ∈ l → Below w.heap.size w W → StepAt (XAt f) W x cs → Calls Tryz.prog 55 #[.agg cs.toArray] W fun e w'=>e = .returned (.bool (p x)) ∧ Below W.heap.size W w') :
  Calls Tryz.prog 87 #[.slice a l.length c,.func (.func 55) #[] #[]] w fun e w'=>∃ r:Int,e = .returned (.int .i64 r) ∧ decide (0 ≤ r) = l.any p ∧ Below w.heap.size w w':=by
 have HH:=Lib.hid h
 have HF:=Lib.hid hF
 have HL:Hid (∀ i,i < l.length → (∀ j (hj:j < l.length),j < i → p l[j] = false) → ∀ hi:i < l.length,p l[i] = true → decide ((0:Int) ≤ (i:Int)) = l.any p):=Lib.hid fun i hi _ hi2 hp=>by
  rw [decide_eq_true (by omega)]
  exact (List.any_eq_true.2 ⟨l[i],List.getElem_mem hi,hp⟩).symm
 have HNO:Hid ((∀ j (hj:j < l.length),p l[j] = false) → decide ((0:Int) ≤ -1) = l.any p):=Lib.hid fun hno=>by
  rw [decide_eq_false (by omega)]
  refine (List.any_eq_false.2 fun x hx=>?_).symm
  obtain ⟨j,hj,rfl⟩:=List.getElem_of_mem hx
  rw [hno j hj];decide
 clear h hF
 obtain ⟨n,hnl⟩:∃ n,l.length = n:=⟨_,rfl⟩
 rw [hnl] at hn ⊢
 have HN:=Lib.hid hnl
 clear hnl
 go_enter Tryz.func87,Tryz.ntmps87
 go_wp2_with fail
 go_loopw [8] (fun iv wr=>∃ i:Nat,iv = .int .i64 i ∧ i ≤ n ∧ Hid (Below w.heap.size w wr ∧ ∀ j (hj:j < l.length),j < i → p l[j] = false)) (fun iv _=>n - (intOf iv).toNat)
 case atStart=>exact ⟨0,rfl,Nat.zero_le _,Lib.hid ⟨Below.refl _ _,fun j _ h=>absurd h (Nat.not_lt_zero _)⟩⟩
 case round =>
  obtain ⟨i,rfl,hi,HR⟩:=hrel
  by_cases hin:i < n
  ·have hil:i < l.length:=by rw [HN.out];exact hin
   obtain ⟨b,o,wa,wc,rfl,hb,hp,hcs⟩:=HH.out.get' i hil
   obtain ⟨k0,k1,k2,k3⟩:=hcs wr HR.out.1
   obtain ⟨R,hR⟩:∃ R,p l[i] = R:=⟨_,rfl⟩
   have HP:Hid (Calls Tryz.prog 55 #[.agg #[.int .i64 l[i].axis,.int .i64 l[i].test,.string (strL l[i].name),.slice wa l[i].wher.length wc]] wr fun e w'=>e = .returned (.bool R) ∧ Below wr.heap.size wr w'):=Lib.hid ((HF.out l[i] _ wr (List.getElem_mem hil) HR.out.1 (hp.turn HR.out.1 fun _ _=>XAt.turn HR.out.1 (Nat.le_refl _))).mono fun _ _ h=>⟨h.1.trans (congrArg (fun b=>Ending.returned (.bool b)) hR),h.2⟩)
   clear hp hcs hb
   have HIL:=Lib.hid hil
   have h1:(i:Int) < (n:Int):=by omega
   have h2:(0:Int) ≤ (i:Int):=by omega
   have ew:IntKind.i64.wrap ((i:Int) + 1) = (i:Int) + 1:=IntWalk.i64_in _ (by omega)
   have HRR:=Lib.hid hR
   clear hR
   go_wp2_with fail
   (with_reducible refine HP.out.mono ?_)
   rintro e w2 ⟨rfl,hb2⟩
   have HB2:=Lib.hid (HR.out.1.trans (hb2.mono HR.out.1.size))
   clear hb2
   cases R with
   | true =>
    have HFI:=Lib.hid (HL.out i HIL.out HR.out.2 HIL.out HRR.out)
    go_wp2_with fail
    go_ret
    exact ⟨_,rfl,HFI.out,HB2.out⟩
   | false =>
    go_wp2_with fail
    go_roundw
    case rel=>exact ⟨i + 1,by go_num,by omega,Lib.hid ⟨HB2.out,fun j hj hji=>by
     rcases Nat.lt_or_ge j i with h | h
     ·exact HR.out.2 j hj h
     ·have e:j = i:=by omega
      subst e;exact HRR.out⟩⟩
    case measure=>simp [intOf];omega
  ·have h1:(n:Int) ≤ (i:Int):=by omega
   have HFI:=Lib.hid (HNO.out fun j hj=>HR.out.2 j hj (by have:=HN.out;omega))
   go_wp2_with fail
   go_ret
   exact ⟨_,rfl,HFI.out,HR.out.1⟩
set_option maxRecDepth 100000 in
set_option maxHeartbeats 2000000 in
theorem containsStep_any (f c:Nat) (a:Option Addr) (l:List PS) (p:PS → Bool) (w:World) (h:SsAt f w a l) (hn:l.length ≤ 1048576)
  (hF:∀ (x:PS) (cs:List Value) (W:World),x ∈ l → Below w.heap.size w W → StepAt (XAt f) W x cs → Calls Tryz.prog 55 #[.agg cs.toArray] W fun e w'=>e = .returned (.bool (p x)) ∧ Below W.heap.size W w') :
  Calls Tryz.prog 54 #[.slice a l.length c,.func (.func 55) #[] #[]] w fun e w'=>e = .returned (.bool (l.any p)) ∧ Below w.heap.size w w':=by
 have HI:=Lib.hid (indexStep_any f c a l p w h hn hF)
 clear h hn hF
 generalize l.any p = R at *
 go_enter Tryz.func54,Tryz.ntmps54
 go_wp2_with fail
 (with_reducible refine HI.out.mono ?_)
 rintro e w2 ⟨r,rfl,hr,hb⟩
 have HR:=Lib.hid hr
 clear hr
 go_wp2_with fail
 go_ret
 exact ⟨ret_bool HR.out,hb⟩
set_option maxRecDepth 100000 in
set_option maxHeartbeats 2000000 in
theorem indexWhere_any (f c:Nat) (a:Option Addr) (l:List PX) (p:PX → Bool) (w:World) (h:XsAt f w a l) (hn:l.length ≤ 1048576)
  (hF:∀ (x:PX) (cs:List Value) (W:World),x ∈ l → Below w.heap.size w W → XAt f W x cs → Calls Tryz.prog 90 #[.agg cs.toArray] W fun e w'=>e = .returned (.bool (p x)) ∧ Below W.heap.size W w') :
  Calls Tryz.prog 115 #[.slice a l.length c,.func (.func 90) #[] #[]] w fun e w'=>∃ r:Int,e = .returned (.int .i64 r) ∧ decide (0 ≤ r) = l.any p ∧ Below w.heap.size w w':=by
 have HH:=Lib.hid h
 have HF:=Lib.hid hF
 have HL:Hid (∀ i,i < l.length → (∀ j (hj:j < l.length),j < i → p l[j] = false) → ∀ hi:i < l.length,p l[i] = true → decide ((0:Int) ≤ (i:Int)) = l.any p):=Lib.hid fun i hi _ hi2 hp=>by
  rw [decide_eq_true (by omega)]
  exact (List.any_eq_true.2 ⟨l[i],List.getElem_mem hi,hp⟩).symm
 have HNO:Hid ((∀ j (hj:j < l.length),p l[j] = false) → decide ((0:Int) ≤ -1) = l.any p):=Lib.hid fun hno=>by
  rw [decide_eq_false (by omega)]
  refine (List.any_eq_false.2 fun x hx=>?_).symm
  obtain ⟨j,hj,rfl⟩:=List.getElem_of_mem hx
  rw [hno j hj];decide
 clear h hF
 obtain ⟨n,hnl⟩:∃ n,l.length = n:=⟨_,rfl⟩
 rw [hnl] at hn ⊢
 have HN:=Lib.hid hnl
 clear hnl
 go_enter Tryz.func115,Tryz.ntmps115
 go_wp2_with fail
 go_loopw [8] (fun iv wr=>∃ i:Nat,iv = .int .i64 i ∧ i ≤ n ∧ Hid (Below w.heap.size w wr ∧ ∀ j (hj:j < l.length),j < i → p l[j] = false)) (fun iv _=>n - (intOf iv).toNat)
 case atStart=>exact ⟨0,rfl,Nat.zero_le _,Lib.hid ⟨Below.refl _ _,fun j _ h=>absurd h (Nat.not_lt_zero _)⟩⟩
 case round =>
  obtain ⟨i,rfl,hi,HR⟩:=hrel
  by_cases hin:i < n
  ·have hil:i < l.length:=by rw [HN.out];exact hin
   obtain ⟨b,o,aa,ac,pa,pc,rfl,hb,hp,hcs⟩:=HH.out.get' i hil
   obtain ⟨k0,k1,k2,k3,k4,k5,k6⟩:=hcs wr HR.out.1
   obtain ⟨R,hR⟩:∃ R,p l[i] = R:=⟨_,rfl⟩
   have HP:Hid (Calls Tryz.prog 90 #[.agg #[.int .i64 l[i].op,.slice aa l[i].args.length ac,.slice pa l[i].path.length pc,.string (strL l[i].attr),.int .i64 l[i].cmp,.string (strL l[i].text),.int .i64 l[i].num]] wr fun e w'=>e = .returned (.bool R) ∧ Below wr.heap.size wr w'):=Lib.hid ((HF.out l[i] _ wr (List.getElem_mem hil) HR.out.1 (XAt.turn HR.out.1 (Nat.le_refl _) hp)).mono fun _ _ h=>⟨h.1.trans (congrArg (fun b=>Ending.returned (.bool b)) hR),h.2⟩)
   clear hp hcs hb
   have HIL:=Lib.hid hil
   have h1:(i:Int) < (n:Int):=by omega
   have h2:(0:Int) ≤ (i:Int):=by omega
   have ew:IntKind.i64.wrap ((i:Int) + 1) = (i:Int) + 1:=IntWalk.i64_in _ (by omega)
   have HRR:=Lib.hid hR
   clear hR
   go_wp2_with fail
   (with_reducible refine HP.out.mono ?_)
   rintro e w2 ⟨rfl,hb2⟩
   have HB2:=Lib.hid (HR.out.1.trans (hb2.mono HR.out.1.size))
   clear hb2
   cases R with
   | true =>
    have HFI:=Lib.hid (HL.out i HIL.out HR.out.2 HIL.out HRR.out)
    go_wp2_with fail
    go_ret
    exact ⟨_,rfl,HFI.out,HB2.out⟩
   | false =>
    go_wp2_with fail
    go_roundw
    case rel=>exact ⟨i + 1,by go_num,by omega,Lib.hid ⟨HB2.out,fun j hj hji=>by
     rcases Nat.lt_or_ge j i with h | h
     ·exact HR.out.2 j hj h
     ·have e:j = i:=by omega
      subst e;exact HRR.out⟩⟩
    case measure=>simp [intOf];omega
  ·have h1:(n:Int) ≤ (i:Int):=by omega
   have HFI:=Lib.hid (HNO.out fun j hj=>HR.out.2 j hj (by have:=HN.out;omega))
   go_wp2_with fail
   go_ret
   exact ⟨_,rfl,HFI.out,HR.out.1⟩
set_option maxRecDepth 100000 in
set_option maxHeartbeats 2000000 in
theorem containsWhere_any (f c:Nat) (a:Option Addr) (l:List PX) (p:PX → Bool) (w:World) (h:XsAt f w a l) (hn:l.length ≤ 1048576)
  (hF:∀ (x:PX) (cs:List Value) (W:World),x ∈ l → Below w.heap.size w W → XAt f W x cs → Calls Tryz.prog 90 #[.agg cs.toArray] W fun e w'=>e = .returned (.bool (p x)) ∧ Below W.heap.size W w') :
  Calls Tryz.prog 89 #[.slice a l.length c,.func (.func 90) #[] #[]] w fun e w'=>e = .returned (.bool (l.any p)) ∧ Below w.heap.size w w':=by
 have HI:=Lib.hid (indexWhere_any f c a l p w h hn hF)
 clear h hn hF
 generalize l.any p = R at *
 go_enter Tryz.func89,Tryz.ntmps89
 go_wp2_with fail
 (with_reducible refine HI.out.mono ?_)
 rintro e w2 ⟨r,rfl,hr,hb⟩
 have HR:=Lib.hid hr
 clear hr
 go_wp2_with fail
 go_ret
 exact ⟨ret_bool HR.out,hb⟩
set_option maxRecDepth 100000 in
set_option maxHeartbeats 2000000 in
theorem indexArgs_any (f c:Nat) (a:Option Addr) (l:List PX) (p:PX → Bool) (w:World) (h:XsAt f w a l) (hn:l.length ≤ 1048576)
  (hF:∀ (x:PX) (cs:List Value) (W:World),x ∈ l → Below w.heap.size w W → XAt f W x cs → Calls Tryz.prog 117 #[.agg cs.toArray] W fun e w'=>e = .returned (.bool (p x)) ∧ Below W.heap.size W w') :
  Calls Tryz.prog 115 #[.slice a l.length c,.func (.func 117) #[] #[]] w fun e w'=>∃ r:Int,e = .returned (.int .i64 r) ∧ decide (0 ≤ r) = l.any p ∧ Below w.heap.size w w':=by
 have HH:=Lib.hid h
 have HF:=Lib.hid hF
 have HL:Hid (∀ i,i < l.length → (∀ j (hj:j < l.length),j < i → p l[j] = false) → ∀ hi:i < l.length,p l[i] = true → decide ((0:Int) ≤ (i:Int)) = l.any p):=Lib.hid fun i hi _ hi2 hp=>by
  rw [decide_eq_true (by omega)]
  exact (List.any_eq_true.2 ⟨l[i],List.getElem_mem hi,hp⟩).symm
 have HNO:Hid ((∀ j (hj:j < l.length),p l[j] = false) → decide ((0:Int) ≤ -1) = l.any p):=Lib.hid fun hno=>by
  rw [decide_eq_false (by omega)]
  refine (List.any_eq_false.2 fun x hx=>?_).symm
  obtain ⟨j,hj,rfl⟩:=List.getElem_of_mem hx
  rw [hno j hj];decide
 clear h hF
 obtain ⟨n,hnl⟩:∃ n,l.length = n:=⟨_,rfl⟩
 rw [hnl] at hn ⊢
 have HN:=Lib.hid hnl
 clear hnl
 go_enter Tryz.func115,Tryz.ntmps115
 go_wp2_with fail
 go_loopw [8] (fun iv wr=>∃ i:Nat,iv = .int .i64 i ∧ i ≤ n ∧ Hid (Below w.heap.size w wr ∧ ∀ j (hj:j < l.length),j < i → p l[j] = false)) (fun iv _=>n - (intOf iv).toNat)
 case atStart=>exact ⟨0,rfl,Nat.zero_le _,Lib.hid ⟨Below.refl _ _,fun j _ h=>absurd h (Nat.not_lt_zero _)⟩⟩
 case round =>
  obtain ⟨i,rfl,hi,HR⟩:=hrel
  by_cases hin:i < n
  ·have hil:i < l.length:=by rw [HN.out];exact hin
   obtain ⟨b,o,aa,ac,pa,pc,rfl,hb,hp,hcs⟩:=HH.out.get' i hil
   obtain ⟨k0,k1,k2,k3,k4,k5,k6⟩:=hcs wr HR.out.1
   obtain ⟨R,hR⟩:∃ R,p l[i] = R:=⟨_,rfl⟩
   have HP:Hid (Calls Tryz.prog 117 #[.agg #[.int .i64 l[i].op,.slice aa l[i].args.length ac,.slice pa l[i].path.length pc,.string (strL l[i].attr),.int .i64 l[i].cmp,.string (strL l[i].text),.int .i64 l[i].num]] wr fun e w'=>e = .returned (.bool R) ∧ Below wr.heap.size wr w'):=Lib.hid ((HF.out l[i] _ wr (List.getElem_mem hil) HR.out.1 (XAt.turn HR.out.1 (Nat.le_refl _) hp)).mono fun _ _ h=>⟨h.1.trans (congrArg (fun b=>Ending.returned (.bool b)) hR),h.2⟩)
   clear hp hcs hb
   have HIL:=Lib.hid hil
   have h1:(i:Int) < (n:Int):=by omega
   have h2:(0:Int) ≤ (i:Int):=by omega
   have ew:IntKind.i64.wrap ((i:Int) + 1) = (i:Int) + 1:=IntWalk.i64_in _ (by omega)
   have HRR:=Lib.hid hR
   clear hR
   go_wp2_with fail
   (with_reducible refine HP.out.mono ?_)
   rintro e w2 ⟨rfl,hb2⟩
   have HB2:=Lib.hid (HR.out.1.trans (hb2.mono HR.out.1.size))
   clear hb2
   cases R with
   | true =>
    have HFI:=Lib.hid (HL.out i HIL.out HR.out.2 HIL.out HRR.out)
    go_wp2_with fail
    go_ret
    exact ⟨_,rfl,HFI.out,HB2.out⟩
   | false =>
    go_wp2_with fail
    go_roundw
    case rel=>exact ⟨i + 1,by go_num,by omega,Lib.hid ⟨HB2.out,fun j hj hji=>by
     rcases Nat.lt_or_ge j i with h | h
     ·exact HR.out.2 j hj h
     ·have e:j = i:=by omega
      subst e;exact HRR.out⟩⟩
    case measure=>simp [intOf];omega
  ·have h1:(n:Int) ≤ (i:Int):=by omega
   have HFI:=Lib.hid (HNO.out fun j hj=>HR.out.2 j hj (by have:=HN.out;omega))
   go_wp2_with fail
   go_ret
   exact ⟨_,rfl,HFI.out,HR.out.1⟩
set_option maxRecDepth 100000 in
set_option maxHeartbeats 2000000 in
theorem containsArgs_any (f c:Nat) (a:Option Addr) (l:List PX) (p:PX → Bool) (w:World) (h:XsAt f w a l) (hn:l.length ≤ 1048576)
  (hF:∀ (x:PX) (cs:List Value) (W:World),x ∈ l → Below w.heap.size w W → XAt f W x cs → Calls Tryz.prog 117 #[.agg cs.toArray] W fun e w'=>e = .returned (.bool (p x)) ∧ Below W.heap.size W w') :
  Calls Tryz.prog 89 #[.slice a l.length c,.func (.func 117) #[] #[]] w fun e w'=>e = .returned (.bool (l.any p)) ∧ Below w.heap.size w w':=by
 have HI:=Lib.hid (indexArgs_any f c a l p w h hn hF)
 clear h hn hF
 generalize l.any p = R at *
 go_enter Tryz.func89,Tryz.ntmps89
 go_wp2_with fail
 (with_reducible refine HI.out.mono ?_)
 rintro e w2 ⟨r,rfl,hr,hb⟩
 have HR:=Lib.hid hr
 clear hr
 go_wp2_with fail
 go_ret
 exact ⟨ret_bool HR.out,hb⟩
end Go.Proofs.YtgjokdngbocehaaGreatDoor
namespace Go.Proofs.YtgjokdngbocehaaGreatDoor
open Go.RowKit
def GoodX (f:Nat):Prop:=∀ (x:PX) (cs:List Value) (W:World),EnvT W → XAt f W x cs → Calls Tryz.prog 91 #[.agg cs.toArray] W fun e w'=>e = .returned (.bool (goodXB f x)) ∧ Below W.heap.size W w'
theorem XAt.form {f:Nat} {w:World} {x:PX} {cs:List Value} (h:XAt f w x cs):∃ aa ac pa pc,cs = exprC x aa ac pa pc:=by
 cases f with
 | zero=>exact h.elim
 | succ f=>obtain ⟨a,c,p,d,h1,_⟩:=h;exact ⟨a,c,p,d,h1⟩
theorem StepAt.form {P:World → PX → List Value → Prop} {w:World} {s:PS} {cs:List Value} (h:StepAt P w s cs):∃ wa wc,cs = stepC s wa wc:=by
 obtain ⟨a,c,h1,_⟩:=h;exact ⟨a,c,h1⟩
theorem any_not {α:Type} (l:List α) (p:α → Bool):(!l.any fun x=>!p x) = l.all p:=by
 induction l with
 | nil=>rfl
 | cons x l ih=>simp only [List.any_cons,List.all_cons,← ih];cases p x <;> simp
set_option maxRecDepth 100000 in
set_option maxHeartbeats 2000000 in
theorem gstep1_any {f:Nat} (GX:GoodX f) (x:PX) (cs:List Value) (w:World) (hE:EnvT w) (h:XAt f w x cs) :
  Calls Tryz.prog 90 #[.agg cs.toArray] w fun e w'=>e = .returned (.bool (!goodXB f x)) ∧ Below w.heap.size w w':=by
 obtain ⟨aa,ac,pa,pc,rfl⟩:=h.form
 have hb0:=(Below.refl w.heap.size w).alloc (Nat.le_refl _) (.cells (exprC x aa ac pa pc).toArray 42)
 have HX:=Lib.hid (GX x _ _ (hE.below hb0) (h.turn hb0 (Nat.le_refl _)))
 have HB:=Lib.hid hb0
 clear hb0 h hE
 unfold exprC at *
 generalize goodXB f x = R at *
 go_enter Tryz.func90,Tryz.ntmps90
 go_wp2_with fail
 (with_reducible refine HX.out.mono ?_)
 rintro e w2 ⟨rfl,hb⟩
 go_wp2_with fail
 go_ret
 exact ⟨rfl,HB.out.trans (hb.mono HB.out.size)⟩
set_option maxRecDepth 100000 in
set_option maxHeartbeats 2000000 in
theorem gexpr1_any {f:Nat} (GX:GoodX f) (x:PX) (cs:List Value) (w:World) (hE:EnvT w) (h:XAt f w x cs) :
  Calls Tryz.prog 117 #[.agg cs.toArray] w fun e w'=>e = .returned (.bool (!goodXB f x)) ∧ Below w.heap.size w w':=by
 obtain ⟨aa,ac,pa,pc,rfl⟩:=h.form
 have hb0:=(Below.refl w.heap.size w).alloc (Nat.le_refl _) (.cells (exprC x aa ac pa pc).toArray 42)
 have HX:=Lib.hid (GX x _ _ (hE.below hb0) (h.turn hb0 (Nat.le_refl _)))
 have HB:=Lib.hid hb0
 clear hb0 h hE
 unfold exprC at *
 generalize goodXB f x = R at *
 go_enter Tryz.func117,Tryz.ntmps117
 go_wp2_with fail
 (with_reducible refine HX.out.mono ?_)
 rintro e w2 ⟨rfl,hb⟩
 go_wp2_with fail
 go_ret
 exact ⟨rfl,HB.out.trans (hb.mono HB.out.size)⟩
set_option maxRecDepth 100000 in
set_option maxHeartbeats 4000000 in
theorem goodStep_any {f:Nat} (GX:GoodX f) (s:PS) (cs:List Value) (w:World) (hE:EnvT w) (h:StepAt (XAt f) w s cs) :
  Calls Tryz.prog 56 #[.agg cs.toArray] w fun e w'=>e = .returned (.bool (goodSB (goodXB f) s)) ∧ Below w.heap.size w w':=by
 obtain ⟨wa,wc,rfl⟩:=h.form
 obtain ⟨wa',wc',hcs,_,_,_,hnl,hwl,hrow⟩:=h
 have hwa:wa' = wa:=by have h3:=congrArg (fun l=>l[3]?) hcs;simp [stepC] at h3;exact h3.1.symm
 subst hwa
 have hb0:=(Below.refl w.heap.size w).alloc (Nat.le_refl _) (.cells (stepC s wa' wc).toArray 76)
 have HB0:=Lib.hid hb0
 have HCW:Hid (∀ W,Below w.heap.size w W → Calls Tryz.prog 89 #[.slice wa' s.wher.length wc,.func (.func 90) #[] #[]] W fun e w'=>e = .returned (.bool (s.wher.any fun x=>!goodXB f x)) ∧ Below W.heap.size W w'):=Lib.hid fun W hW =>
  containsWhere_any f wc wa' s.wher (fun x=>!goodXB f x) W (XsAt.below hrow hW) hwl fun x cs W' _ hW' hx=>gstep1_any GX x cs W' ((hE.below hW).below hW') hx
 have HNM:Hid (∀ W,Below w.heap.size w W → Calls Tryz.prog 88 #[.string (strL s.name)] W fun e w'=>e = .returned (.bool (nameB s.name)) ∧ Below W.heap.size W w'):=Lib.hid fun W hW=>nameL_any s.name W hnl (hE.below hW)
 have hse:=strL_isE2 s.name
 clear hb0 hE hrow hcs hnl
 obtain ⟨R,hR⟩:∃ R,goodSB (goodXB f) s = R:=⟨_,rfl⟩
 rw [hR]
 have HR:Hid (((decide (0 ≤ s.axis) && decide (s.axis ≤ 3) && decide (0 ≤ s.test) && decide (s.test ≤ 3)) && (if s.test = 0 then nameB s.name else s.name.isEmpty) && !(s.wher.any fun x=>!goodXB f x)) = R):=Lib.hid (by rw [any_not];exact hR)
 clear hR
 unfold stepC at *
 generalize s.axis = ax at *
 generalize s.test = te at *
 generalize (s.wher.any fun x=>!goodXB f x) = Q at *
 generalize nameB s.name = V at *
 generalize s.name.isEmpty = E at *
 generalize strL s.name = nm at *
 generalize s.wher.length = n at *
 by_cases g1:ax < 0
 ·have HF:Hid (false = R):=Lib.hid (by rw [← HR.out,decide_eq_false (show ¬ 0 ≤ ax by omega)];simp)
  go_enter Tryz.func56,Tryz.ntmps56
  go_wp2_with fail
  go_ret
  exact ⟨ret_bool HF.out,HB0.out⟩
 have g1':0 ≤ ax:=by omega
 by_cases g2:3 < ax
 ·have HF:Hid (false = R):=Lib.hid (by rw [← HR.out,decide_eq_false (show ¬ ax ≤ 3 by omega)];simp)
  go_enter Tryz.func56,Tryz.ntmps56
  go_wp2_with fail
  go_ret
  exact ⟨ret_bool HF.out,HB0.out⟩
 have g2':ax ≤ 3:=by omega
 by_cases g3:te < 0
 ·have HF:Hid (false = R):=Lib.hid (by rw [← HR.out,decide_eq_false (show ¬ 0 ≤ te by omega)];simp)
  go_enter Tryz.func56,Tryz.ntmps56
  go_wp2_with fail
  go_ret
  exact ⟨ret_bool HF.out,HB0.out⟩
 have g3':0 ≤ te:=by omega
 by_cases g4:3 < te
 ·have HF:Hid (false = R):=Lib.hid (by rw [← HR.out,decide_eq_false (show ¬ te ≤ 3 by omega)];simp)
  go_enter Tryz.func56,Tryz.ntmps56
  go_wp2_with fail
  go_ret
  exact ⟨ret_bool HF.out,HB0.out⟩
 have g4':te ≤ 3:=by omega
 rw [decide_eq_true g1',decide_eq_true g2',decide_eq_true g3',decide_eq_true g4'] at HR
 simp only [Bool.true_and] at HR
 by_cases g5:te = 0
 ·subst g5
  rw [if_pos rfl] at HR
  clear g3 g4
  go_enter Tryz.func56,Tryz.ntmps56
  go_wp2_with fail
  (with_reducible refine (HNM.out _ HB0.out).mono ?_)
  rintro e w2 ⟨rfl,hb⟩
  have HB2:=Lib.hid (HB0.out.trans (hb.mono HB0.out.size))
  have HKB:=Lib.hid hb
  have q0:∀ j,w2.cell? ⟨w.heap.size,j,none⟩ = (w.alloc (.cells #[.int .i64 ax,.int .i64 0,.string nm,.slice wa' n wc] 76)).cell? ⟨w.heap.size,j,none⟩:=fun j=>HKB.out.cell (p:=⟨w.heap.size,j,none⟩) (by simp)
  have c1:w2.cell? ⟨w.heap.size,1,none⟩ = some (.int .i64 0):=by rw [q0 1,cell_heap (heap_alloc_new w _)];rfl
  have c2:w2.cell? ⟨w.heap.size,2,none⟩ = some (.string nm):=by rw [q0 2,cell_heap (heap_alloc_new w _)];rfl
  have c3:w2.cell? ⟨w.heap.size,3,none⟩ = some (.slice wa' n wc):=by rw [q0 3,cell_heap (heap_alloc_new w _)];rfl
  clear hb q0
  cases V with
  | false =>
   go_wp2_with fail
   go_ret
   exact ⟨ret_bool HR.out,HB2.out⟩
  | true =>
   go_wp2_with fail
   (with_reducible refine (HCW.out _ HB2.out).mono ?_)
   rintro e w3 ⟨rfl,hb3⟩
   go_wp2_with fail
   go_ret
   exact ⟨ret_bool HR.out,HB2.out.trans (hb3.mono HB2.out.size)⟩
 ·rw [if_neg g5] at HR
  have t0:((te:Int) == 0) = false:=by simpa using g5
  have t1:((te:Int) != 0) = true:=by simpa using g5
  clear g3 g4 g5
  cases E with
  | false =>
   go_enter Tryz.func56,Tryz.ntmps56
   go_wp2_with fail
   go_ret
   exact ⟨ret_bool HR.out,HB0.out⟩
  | true =>
   go_enter Tryz.func56,Tryz.ntmps56
   go_wp2_with fail
   (with_reducible refine (HCW.out _ HB0.out).mono ?_)
   rintro e w3 ⟨rfl,hb3⟩
   go_wp2_with fail
   go_ret
   exact ⟨ret_bool HR.out,HB0.out.trans (hb3.mono HB0.out.size)⟩
set_option maxRecDepth 100000 in
set_option maxHeartbeats 2000000 in
theorem gpath1_any {f:Nat} (GX:GoodX f) (s:PS) (cs:List Value) (w:World) (hE:EnvT w) (h:StepAt (XAt f) w s cs) :
  Calls Tryz.prog 55 #[.agg cs.toArray] w fun e w'=>e = .returned (.bool (!goodSB (goodXB f) s)) ∧ Below w.heap.size w w':=by
 obtain ⟨wa,wc,rfl⟩:=h.form
 have hb0:=(Below.refl w.heap.size w).alloc (Nat.le_refl _) (.cells (stepC s wa wc).toArray 76)
 have HX:=Lib.hid (goodStep_any GX s _ _ (hE.below hb0) (h.turn hb0 fun _ _=>XAt.turn hb0 (Nat.le_refl _)))
 have HB:=Lib.hid hb0
 clear hb0 h hE
 unfold stepC at *
 generalize goodSB (goodXB f) s = R at *
 go_enter Tryz.func55,Tryz.ntmps55
 go_wp2_with fail
 (with_reducible refine HX.out.mono ?_)
 rintro e w2 ⟨rfl,hb⟩
 go_wp2_with fail
 go_ret
 exact ⟨rfl,HB.out.trans (hb.mono HB.out.size)⟩
set_option maxRecDepth 100000 in
set_option maxHeartbeats 2000000 in
theorem goodPath_any {f:Nat} (GX:GoodX f) (a:Option Addr) (c:Nat) (ss:List PS) (w:World) (hE:EnvT w) (h:SsAt f w a ss) (hn:ss.length ≤ 1048576) :
  Calls Tryz.prog 31 #[.agg #[.slice a ss.length c]] w fun e w'=>e = .returned (.bool (goodPB (goodXB f) ss)) ∧ Below w.heap.size w w':=by
 have hb0:=(Below.refl w.heap.size w).alloc (Nat.le_refl _) (.cells #[.slice a ss.length c] 25)
 have HB0:=Lib.hid hb0
 have HCS:Hid (Calls Tryz.prog 54 #[.slice a ss.length c,.func (.func 55) #[] #[]] (w.alloc (.cells #[.slice a ss.length c] 25)) fun e w'=>e = .returned (.bool (ss.any fun s=>!goodSB (goodXB f) s)) ∧ Below (w.alloc (.cells #[.slice a ss.length c] 25)).heap.size (w.alloc (.cells #[.slice a ss.length c] 25)) w'):=Lib.hid
  (containsStep_any f c a ss (fun s=>!goodSB (goodXB f) s) _ (SsAt.below h hb0) hn fun s cs W' _ hW' hx=>gpath1_any GX s cs W' ((hE.below hb0).below hW') hx)
 obtain ⟨R,hR⟩:∃ R,goodPB (goodXB f) ss = R:=⟨_,rfl⟩
 rw [hR]
 have HR:Hid ((!ss.isEmpty && !(ss.any fun s=>!goodSB (goodXB f) s)) = R):=Lib.hid (by rw [any_not];exact hR)
 clear hR hb0 h hE
 generalize (ss.any fun s=>!goodSB (goodXB f) s) = Q at *
 cases hz:ss.isEmpty with
 | true =>
  have hl:ss.length = 0:=by rw [List.isEmpty_iff.1 hz];rfl
  rw [hz] at HR
  generalize ss.length = n at *
  subst hl
  clear hz
  go_enter Tryz.func31,Tryz.ntmps31
  go_wp2_with fail
  go_ret
  exact ⟨ret_bool HR.out,HB0.out⟩
 | false =>
  have hl:0 < ss.length:=by
   rcases Nat.eq_zero_or_pos ss.length with h | h
   ·rw [List.eq_nil_of_length_eq_zero h] at hz;cases hz
   ·exact h
  rw [hz] at HR
  generalize ss.length = n at *
  have i1:(0:Int) < (n:Int):=by omega
  clear hz
  go_enter Tryz.func31,Tryz.ntmps31
  go_wp2_with fail
  (with_reducible refine HCS.out.mono ?_)
  rintro e w3 ⟨rfl,hb3⟩
  go_wp2_with fail
  go_ret
  exact ⟨ret_bool HR.out,HB0.out.trans (hb3.mono HB0.out.size)⟩
end Go.Proofs.YtgjokdngbocehaaGreatDoor
namespace Go.Proofs.YtgjokdngbocehaaGreatDoor
open Go.RowKit
set_option maxRecDepth 100000 in
set_option maxHeartbeats 8000000 in
theorem goodSome_any {f:Nat} (GX:GoodX f) (x:PX) (cs:List Value) (w:World) (hE:EnvT w) (h:XAt (f + 1) w x cs) (hop:x.op = 3) :
  Calls Tryz.prog 91 #[.agg cs.toArray] w fun e w'=>e = .returned (.bool (goodXB (f + 1) x)) ∧ Below w.heap.size w w':=by
 obtain ⟨aa,ac,pa,pc,rfl,hal,hpl,_,_,_,hatl,htxl,hargl,hpathl,hargs,hpath⟩:=h
 have hb0:=(Below.refl w.heap.size w).alloc (Nat.le_refl _) (.cells (exprC x aa ac pa pc).toArray 42)
 have HB0:=Lib.hid hb0
 have HGP:Hid (Calls Tryz.prog 31 #[.agg #[.slice pa x.path.length pc]] (w.alloc (.cells (exprC x aa ac pa pc).toArray 42)) fun e w'=>e = .returned (.bool (goodPB (goodXB f) x.path)) ∧ Below (w.alloc (.cells (exprC x aa ac pa pc).toArray 42)).heap.size (w.alloc (.cells (exprC x aa ac pa pc).toArray 42)) w') :=
  Lib.hid (goodPath_any GX pa pc x.path _ (hE.below hb0) (SsAt.below hpath hb0) hpathl)
 have HNM:Hid (∀ W,Below w.heap.size w W → Calls Tryz.prog 88 #[.string (strL x.attr)] W fun e w'=>e = .returned (.bool (nameB x.attr)) ∧ Below W.heap.size W w'):=Lib.hid fun W hW=>nameL_any x.attr W hatl (hE.below hW)
 have HGT:Hid (∀ W,Below w.heap.size w W → Calls Tryz.prog 116 #[.string (strL x.text)] W fun e w'=>e = .returned (.bool (goodTB x.text)) ∧ Below W.heap.size W w'):=Lib.hid fun W hW=>goodText_any x.text W htxl (hE.below hW)
 have hse:=strL_isE2 x.attr
 have hst:=strL_isE2 x.text
 have hb0s:(w.alloc (.cells (exprC x aa ac pa pc).toArray 42)).heap.size = w.heap.size + 1:=by simp
 have HCL:Hid (∀ W,Below (w.alloc (.cells (exprC x aa ac pa pc).toArray 42)).heap.size (w.alloc (.cells (exprC x aa ac pa pc).toArray 42)) W → W.cell? ⟨w.heap.size,3,none⟩ = some (.string (strL x.attr)) ∧ W.cell? ⟨w.heap.size,4,none⟩ = some (.int .i64 x.cmp) ∧ W.cell? ⟨w.heap.size,5,none⟩ = some (.string (strL x.text)) ∧ W.cell? ⟨w.heap.size,6,none⟩ = some (.int .i64 x.num)):=Lib.hid fun W hW=>by
  have k:=fun j=>hW.cell (p:=⟨w.heap.size,j,none⟩) (by rw [hb0s];exact Nat.lt_succ_self _)
  refine ⟨(k 3).trans ?_,(k 4).trans ?_,(k 5).trans ?_,(k 6).trans ?_⟩ <;> (rw [cell_heap (heap_alloc_new w _)];rfl)
 obtain ⟨R,hR⟩:∃ R,goodXB (f + 1) x = R:=⟨_,rfl⟩
 rw [hR]
 have HR:Hid ((x.args.isEmpty && goodPB (goodXB f) x.path && (x.attr.isEmpty || nameB x.attr) && goodCB x.cmp x.text x.num) = R):=Lib.hid (by rw [← hR];unfold goodXB;rw [if_pos hop])
 have HSZ:Hid (w.heap.size + 1 ≤ (w.alloc (.cells (exprC x aa ac pa pc).toArray 42)).heap.size):=Lib.hid (by rw [hb0s];exact Nat.le_refl _)
 clear hb0 hE hargs hpath hR hb0s hatl htxl
 unfold exprC at *
 rw [hop] at *
 have hne:x.args.isEmpty = decide (x.args.length = 0):=by cases x.args <;> simp
 rw [hne] at HR
 clear hop hne
 generalize x.args.length = n at *
 generalize x.path.length = m at *
 generalize goodPB (goodXB f) x.path = G2 at *
 generalize x.attr.isEmpty = E3 at *
 generalize nameB x.attr = V3 at *
 generalize x.attr = at3 at *
 generalize x.cmp = cm at *
 generalize x.text = tx at *
 generalize x.num = nu at *
 by_cases hn:n = 0
 rotate_left
 ·have HF:Hid (false = R):=Lib.hid (by rw [← HR.out,decide_eq_false hn];rfl)
  have i1:(0:Int) < (n:Int):=by omega
  clear HGT HCL
  go_enter Tryz.func91,Tryz.ntmps91
  go_wp2_with fail
  go_ret
  exact ⟨ret_bool HF.out,HB0.out⟩
 subst hn
 simp only [decide_true,Bool.true_and] at HR
 go_enter Tryz.func91,Tryz.ntmps91
 go_wp2_with fail
 (with_reducible refine HGP.out.mono ?_)
 rintro e w2 ⟨rfl,hb2⟩
 have HB2:=Lib.hid (HB0.out.trans (hb2.mono HB0.out.size))
 have HZ2:=Lib.hid (Nat.le_trans HSZ.out hb2.size)
 have HC2:=Lib.hid (HCL.out w2 hb2)
 have HK2:=Lib.hid hb2
 clear hb2
 cases G2 with
 | false =>
  go_wp2_with fail
  go_ret
  exact ⟨ret_bool HR.out,HB2.out⟩
 | true =>
  simp only [Bool.true_and] at HR
  cases E3 with
  | true =>
   simp only [Bool.true_or,Bool.true_and] at HR
   obtain ⟨c3,c4,c5,c6⟩:=HC2.out
   have HBW:=HB2
   have HSW:=HZ2
   clear HCL HNM HGP HK2
   by_cases d0:cm = 0
   ·subst d0
    rw [show goodCB 0 tx nu = (tx.isEmpty && nu == 0) from rfl] at HR
    clear HGT
    generalize tx.isEmpty = E5 at *
    cases E5 with
    | false =>
     go_wp2_with fail
     go_ret
     exact ⟨ret_bool HR.out,HBW.out⟩
    | true =>
     go_wp2_with fail
     go_ret
     exact ⟨ret_bool HR.out,HBW.out⟩
   have t0:((cm:Int) == 0) = false:=by simpa using d0
   by_cases d1:1 ≤ cm ∧ cm ≤ 5
   ·rw [show goodCB cm tx nu = (goodTB tx && nu == 0) from by unfold goodCB;rw [if_neg d0,if_pos d1]] at HR
    have d2:cm = 1 ∨ cm = 2 ∨ cm = 3 ∨ cm = 4 ∨ cm = 5:=by omega
    generalize goodTB tx = G5 at *
    rcases d2 with rfl | rfl | rfl | rfl | rfl
    all_goals
     go_wp2_with fail
     (with_reducible refine (HGT.out _ HBW.out).mono ?_)
     rintro e w7 ⟨rfl,hb7⟩
     have HB7:=Lib.hid (HBW.out.trans (hb7.mono HBW.out.size))
     have c67:w7.cell? ⟨w.heap.size,6,none⟩ = some (.int .i64 nu):=by
      rw [hb7.cell (p:=⟨w.heap.size,6,none⟩) (Nat.lt_of_succ_le HSW.out)];exact c6
     clear hb7
     cases G5 with
     | false =>
      go_wp2_with fail
      go_ret
      exact ⟨ret_bool HR.out,HB7.out⟩
     | true =>
      go_wp2_with fail
      go_ret
      exact ⟨ret_bool HR.out,HB7.out⟩
   clear HGT
   by_cases d3:6 ≤ cm ∧ cm ≤ 8
   ·rw [show goodCB cm tx nu = (tx.isEmpty && decide (0 ≤ nu) && decide (nu ≤ 1000000)) from by unfold goodCB;rw [if_neg d0,if_neg d1,if_pos d3]] at HR
    have d2:cm = 6 ∨ cm = 7 ∨ cm = 8:=by omega
    generalize tx.isEmpty = E5 at *
    clear d0 d1 d3
    rcases d2 with rfl | rfl | rfl
    all_goals
     cases E5 with
     | false =>
      go_wp2_with fail
      go_ret
      exact ⟨ret_bool HR.out,HBW.out⟩
     | true =>
      by_cases d4:0 ≤ nu
      ·have HR2:Hid (decide (nu ≤ 1000000) = R):=Lib.hid (by rw [← HR.out,decide_eq_true d4];rfl)
       go_wp2_with fail
       go_ret
       exact ⟨ret_bool HR2.out,HBW.out⟩
      ·have d5:nu < 0:=by omega
       have HR2:Hid (false = R):=Lib.hid (by rw [← HR.out,decide_eq_false d4];rfl)
       go_wp2_with fail
       go_ret
       exact ⟨ret_bool HR2.out,HBW.out⟩
   have HF:Hid (false = R):=Lib.hid (by rw [← HR.out];unfold goodCB;rw [if_neg d0,if_neg d1,if_neg d3])
   have t1:((cm:Int) == 1) = false:=by simp;omega
   have t2:((cm:Int) == 2) = false:=by simp;omega
   have t3:((cm:Int) == 3) = false:=by simp;omega
   have t4:((cm:Int) == 4) = false:=by simp;omega
   have t5:((cm:Int) == 5) = false:=by simp;omega
   have t6:((cm:Int) == 6) = false:=by simp;omega
   have t7:((cm:Int) == 7) = false:=by simp;omega
   have t8:((cm:Int) == 8) = false:=by simp;omega
   clear d0 d1 d3
   go_wp2_with fail
   go_ret
   exact ⟨ret_bool HF.out,HBW.out⟩
  | false =>
   simp only [Bool.false_or] at HR
   obtain ⟨c3,c4',c5',c6'⟩:=HC2.out
   go_wp2_with fail
   (with_reducible refine (HNM.out _ HB2.out).mono ?_)
   rintro e w3 ⟨rfl,hb3⟩
   have HBW:=Lib.hid (HB2.out.trans (hb3.mono HB2.out.size))
   have HK3:=Lib.hid (HK2.out.trans (hb3.mono HK2.out.size))
   have HSW:=Lib.hid (Nat.le_trans HZ2.out hb3.size)
   clear hb3 c3 c4' c5' c6'
   cases V3 with
   | false =>
    go_wp2_with fail
    go_ret
    exact ⟨ret_bool HR.out,HBW.out⟩
   | true =>
    simp only [Bool.true_and] at HR
    obtain ⟨c3,c4,c5,c6⟩:=HCL.out _ HK3.out
    clear HCL HNM HGP HK2 HK3
    by_cases d0:cm = 0
    ·subst d0
     rw [show goodCB 0 tx nu = (tx.isEmpty && nu == 0) from rfl] at HR
     clear HGT
     generalize tx.isEmpty = E5 at *
     cases E5 with
     | false =>
      go_wp2_with fail
      go_ret
      exact ⟨ret_bool HR.out,HBW.out⟩
     | true =>
      go_wp2_with fail
      go_ret
      exact ⟨ret_bool HR.out,HBW.out⟩
    have t0:((cm:Int) == 0) = false:=by simpa using d0
    by_cases d1:1 ≤ cm ∧ cm ≤ 5
    ·rw [show goodCB cm tx nu = (goodTB tx && nu == 0) from by unfold goodCB;rw [if_neg d0,if_pos d1]] at HR
     have d2:cm = 1 ∨ cm = 2 ∨ cm = 3 ∨ cm = 4 ∨ cm = 5:=by omega
     generalize goodTB tx = G5 at *
     rcases d2 with rfl | rfl | rfl | rfl | rfl
     all_goals
      go_wp2_with fail
      (with_reducible refine (HGT.out _ HBW.out).mono ?_)
      rintro e w7 ⟨rfl,hb7⟩
      have HB7:=Lib.hid (HBW.out.trans (hb7.mono HBW.out.size))
      have c67:w7.cell? ⟨w.heap.size,6,none⟩ = some (.int .i64 nu):=by
       rw [hb7.cell (p:=⟨w.heap.size,6,none⟩) (Nat.lt_of_succ_le HSW.out)];exact c6
      clear hb7
      cases G5 with
      | false =>
       go_wp2_with fail
       go_ret
       exact ⟨ret_bool HR.out,HB7.out⟩
      | true =>
       go_wp2_with fail
       go_ret
       exact ⟨ret_bool HR.out,HB7.out⟩
    clear HGT
    by_cases d3:6 ≤ cm ∧ cm ≤ 8
    ·rw [show goodCB cm tx nu = (tx.isEmpty && decide (0 ≤ nu) && decide (nu ≤ 1000000)) from by unfold goodCB;rw [if_neg d0,if_neg d1,if_pos d3]] at HR
     have d2:cm = 6 ∨ cm = 7 ∨ cm = 8:=by omega
     generalize tx.isEmpty = E5 at *
     clear d0 d1 d3
     rcases d2 with rfl | rfl | rfl
     all_goals
      cases E5 with
      | false =>
       go_wp2_with fail
       go_ret
       exact ⟨ret_bool HR.out,HBW.out⟩
      | true =>
       by_cases d4:0 ≤ nu
       ·have HR2:Hid (decide (nu ≤ 1000000) = R):=Lib.hid (by rw [← HR.out,decide_eq_true d4];rfl)
        go_wp2_with fail
        go_ret
        exact ⟨ret_bool HR2.out,HBW.out⟩
       ·have d5:nu < 0:=by omega
        have HR2:Hid (false = R):=Lib.hid (by rw [← HR.out,decide_eq_false d4];rfl)
        go_wp2_with fail
        go_ret
        exact ⟨ret_bool HR2.out,HBW.out⟩
    have HF:Hid (false = R):=Lib.hid (by rw [← HR.out];unfold goodCB;rw [if_neg d0,if_neg d1,if_neg d3])
    have t1:((cm:Int) == 1) = false:=by simp;omega
    have t2:((cm:Int) == 2) = false:=by simp;omega
    have t3:((cm:Int) == 3) = false:=by simp;omega
    have t4:((cm:Int) == 4) = false:=by simp;omega
    have t5:((cm:Int) == 5) = false:=by simp;omega
    have t6:((cm:Int) == 6) = false:=by simp;omega
    have t7:((cm:Int) == 7) = false:=by simp;omega
    have t8:((cm:Int) == 8) = false:=by simp;omega
    clear d0 d1 d3
    go_wp2_with fail
    go_ret
    exact ⟨ret_bool HF.out,HBW.out⟩
set_option maxRecDepth 100000 in
set_option maxHeartbeats 8000000 in
theorem goodElse_any {f:Nat} (GX:GoodX f) (x:PX) (cs:List Value) (w:World) (hE:EnvT w) (h:XAt (f + 1) w x cs) (hop:x.op ≠ 3) :
  Calls Tryz.prog 91 #[.agg cs.toArray] w fun e w'=>e = .returned (.bool (goodXB (f + 1) x)) ∧ Below w.heap.size w w':=by
 obtain ⟨aa,ac,pa,pc,rfl,hal,hpl,_,_,_,hatl,htxl,hargl,hpathl,hargs,hpath⟩:=h
 have hb0:=(Below.refl w.heap.size w).alloc (Nat.le_refl _) (.cells (exprC x aa ac pa pc).toArray 42)
 have HB0:=Lib.hid hb0
 have HCA:Hid (Calls Tryz.prog 89 #[.slice aa x.args.length ac,.func (.func 117) #[] #[]] (w.alloc (.cells (exprC x aa ac pa pc).toArray 42)) fun e w'=>e = .returned (.bool (x.args.any fun y=>!goodXB f y)) ∧ Below (w.alloc (.cells (exprC x aa ac pa pc).toArray 42)).heap.size (w.alloc (.cells (exprC x aa ac pa pc).toArray 42)) w'):=Lib.hid
  (containsArgs_any f ac aa x.args (fun y=>!goodXB f y) _ (XsAt.below hargs hb0) hargl fun y cs W' _ hW' hx=>gexpr1_any GX y cs W' ((hE.below hb0).below hW') hx)
 have hse:=strL_isE2 x.attr
 have hst:=strL_isE2 x.text
 obtain ⟨R,hR⟩:∃ R,goodXB (f + 1) x = R:=⟨_,rfl⟩
 rw [hR]
 have HR:Hid ((bareB x && (if x.op = 0 ∨ x.op = 1 then decide (2 ≤ x.args.length) else if x.op = 2 then decide (x.args.length = 1) else false) && !(x.args.any fun y=>!goodXB f y)) = R):=Lib.hid (by rw [← hR,any_not];unfold goodXB;rw [if_neg hop])
 have t3:((x.op:Int) == 3) = false:=by simpa using hop
 clear hb0 hE hargs hpath hR hatl htxl hop
 unfold exprC at *
 unfold bareB at HR
 have hne:x.path.isEmpty = decide (x.path.length = 0):=by cases x.path <;> simp
 rw [hne] at HR
 clear hne
 generalize (x.args.any fun y=>!goodXB f y) = Q at *
 generalize x.args.length = n at *
 generalize x.path.length = m at *
 generalize x.attr.isEmpty = E3 at *
 generalize x.text.isEmpty = E5 at *
 generalize x.attr = at3 at *
 generalize x.cmp = cm at *
 generalize x.text = tx at *
 generalize x.num = nu at *
 generalize x.op = op at *
 by_cases hm:m = 0
 rotate_left
 ·have HF:Hid (false = R):=Lib.hid (by rw [← HR.out,decide_eq_false hm];rfl)
  have i1:(0:Int) < (m:Int):=by omega
  go_enter Tryz.func91,Tryz.ntmps91
  go_wp2_with fail
  go_ret
  exact ⟨ret_bool HF.out,HB0.out⟩
 subst hm
 simp only [decide_true,Bool.true_and] at HR
 cases E3 with
 | false =>
  go_enter Tryz.func91,Tryz.ntmps91
  go_wp2_with fail
  go_ret
  exact ⟨ret_bool HR.out,HB0.out⟩
 | true =>
 simp only [Bool.true_and] at HR
 by_cases d0:cm = 0
 rotate_left
 ·have d1:((cm:Int) == 0) = false:=by simpa using d0
  have d2:((cm:Int) != 0) = true:=by simpa using d0
  have HF:Hid (false = R):=Lib.hid (by rw [← HR.out,d1];rfl)
  clear d0
  go_enter Tryz.func91,Tryz.ntmps91
  go_wp2_with fail
  go_ret
  exact ⟨ret_bool HF.out,HB0.out⟩
 subst d0
 rw [show ((0:Int) == 0) = true from rfl,Bool.true_and] at HR
 cases E5 with
 | false =>
  go_enter Tryz.func91,Tryz.ntmps91
  go_wp2_with fail
  go_ret
  exact ⟨ret_bool HR.out,HB0.out⟩
 | true =>
 simp only [Bool.true_and] at HR
 by_cases d0:nu = 0
 rotate_left
 ·have d1:((nu:Int) == 0) = false:=by simpa using d0
  have d2:((nu:Int) != 0) = true:=by simpa using d0
  have HF:Hid (false = R):=Lib.hid (by rw [← HR.out,d1];rfl)
  clear d0
  go_enter Tryz.func91,Tryz.ntmps91
  go_wp2_with fail
  go_ret
  exact ⟨ret_bool HF.out,HB0.out⟩
 subst d0
 rw [show ((0:Int) == 0) = true from rfl,Bool.true_and] at HR
 by_cases o1:op = 0 ∨ op = 1
 ·rw [if_pos o1] at HR
  by_cases l2:2 ≤ n
  ·rw [decide_eq_true l2,Bool.true_and] at HR
   have i1:(2:Int) ≤ (n:Int):=by omega
   clear l2
   rcases o1 with rfl | rfl
   all_goals
    go_enter Tryz.func91,Tryz.ntmps91
    go_wp2_with fail
    (with_reducible refine HCA.out.mono ?_)
    rintro e w2 ⟨rfl,hb2⟩
    go_wp2_with fail
    go_ret
    exact ⟨ret_bool HR.out,HB0.out.trans (hb2.mono HB0.out.size)⟩
  ·rw [decide_eq_false l2,Bool.false_and] at HR
   have i1:(n:Int) < 2:=by omega
   clear l2
   rcases o1 with rfl | rfl
   all_goals
    go_enter Tryz.func91,Tryz.ntmps91
    go_wp2_with fail
    go_ret
    exact ⟨ret_bool HR.out,HB0.out⟩
 rw [if_neg o1] at HR
 by_cases o2:op = 2
 ·subst o2
  rw [if_pos rfl] at HR
  clear o1
  by_cases l2:n = 1
  ·subst l2
   rw [decide_eq_true rfl,Bool.true_and] at HR
   go_enter Tryz.func91,Tryz.ntmps91
   go_wp2_with fail
   (with_reducible refine HCA.out.mono ?_)
   rintro e w2 ⟨rfl,hb2⟩
   go_wp2_with fail
   go_ret
   exact ⟨ret_bool HR.out,HB0.out.trans (hb2.mono HB0.out.size)⟩
  ·rw [decide_eq_false l2,Bool.false_and] at HR
   have i1:((n:Int) != 1) = true:=by simp;omega
   have i2:((n:Int) == 1) = false:=by simp;omega
   clear l2
   go_enter Tryz.func91,Tryz.ntmps91
   go_wp2_with fail
   go_ret
   exact ⟨ret_bool HR.out,HB0.out⟩
 rw [if_neg o2,Bool.false_and] at HR
 have t0:((op:Int) == 0) = false:=by simp;omega
 have t1:((op:Int) == 1) = false:=by simp;omega
 have t2:((op:Int) == 2) = false:=by simp;omega
 clear o1 o2
 go_enter Tryz.func91,Tryz.ntmps91
 go_wp2_with fail
 go_ret
 exact ⟨ret_bool HR.out,HB0.out⟩
theorem goodX_all:∀ f,GoodX f
 | 0=>fun _ _ _ _ h=>h.elim
 | f + 1=>fun x cs W hE h=>by
  by_cases hop:x.op = 3
  ·exact goodSome_any (goodX_all f) x cs W hE h hop
  ·exact goodElse_any (goodX_all f) x cs W hE h hop
end Go.Proofs.YtgjokdngbocehaaGreatDoor
