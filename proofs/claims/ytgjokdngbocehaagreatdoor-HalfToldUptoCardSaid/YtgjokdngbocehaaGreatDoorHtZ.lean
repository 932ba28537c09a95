/-
  gimletref09: sign, Text, Quoted.
-/
import Derived.Test.YtgjokdngbocehaaGreatDoorHtA
import Derived.Test.YtgjokdngbocehaaGreatDoorHtB
import Derived.Test.YtgjokdngbocehaaGreatDoorHtC
import Derived.Test.YtgjokdngbocehaaGreatDoorHtD
import Derived.Test.YtgjokdngbocehaaGreatDoorHtG
import Derived.Test.YtgjokdngbocehaaGreatDoorHtO
namespace Go.Proofs.YtgjokdngbocehaaGreatDoor
open Go.RowKit
theorem own_sl9 {w:World} {base n:Nat} {e:TypeId} {a:Option Addr} {c:Nat} {xs:List Value} (h:w.ownsRow base e 1 (.slice a n c) n xs):Sl w a n xs:=by
 obtain ⟨a',c',e',h2⟩:=own_sl h
 cases e'
 exact h2
theorem form_text6 (c:UInt8):(form textPs c).length ≤ 6:=by
 have h:∀ n:Fin 256,(form textPs (UInt8.ofNat n)).length ≤ 6:=by decide +kernel
 have:=h ⟨c.toNat,c.toNat_lt⟩
 simpa using this
theorem form_value6 (c:UInt8):(form valuePs c).length ≤ 6:=by
 have h:∀ n:Fin 256,(form valuePs (UInt8.ofNat n)).length ≤ 6:=by decide +kernel
 have:=h ⟨c.toNat,c.toNat_lt⟩
 simpa using this
theorem replL_len6 (ps:List (UInt8 × ByteArray)) (hf:∀ c,(form ps c).length ≤ 6) (l:List UInt8):(replL ps l).length ≤ 6 * l.length:=by
 induction l with
 | nil=>simp [replL]
 | cons b l ih =>
  have:=hf b
  simp only [replL,List.flatMap_cons,List.length_append,List.length_cons] at *
  omega
theorem replL_step (ps:List (UInt8 × ByteArray)) (l:List UInt8) (i:Nat) (h:i < l.length):replL ps (l.take (i + 1)) = replL ps (l.take i) ++ form ps l[i]:=by
 unfold replL
 rw [List.take_succ_eq_append_getElem h,List.flatMap_append]
 simp
theorem form_text_else (x:UInt8) (h1:x.toNat ≠ 38) (h2:x.toNat ≠ 60) (h3:x.toNat ≠ 13) (h4:x.toNat ≠ 62):form textPs x = [x]:=by
 have h:∀ n:Fin 256,n.val ≠ 38 → n.val ≠ 60 → n.val ≠ 13 → n.val ≠ 62 → form textPs (UInt8.ofNat n) = [UInt8.ofNat n]:=by decide +kernel
 have:=h ⟨x.toNat,x.toNat_lt⟩ h1 h2 h3 h4
 simpa using this
theorem form_value_else (x:UInt8) (h1:x.toNat ≠ 38) (h2:x.toNat ≠ 60) (h3:x.toNat ≠ 13) (h4:x.toNat ≠ 34) (h5:x.toNat ≠ 9) (h6:x.toNat ≠ 10):form valuePs x = [x]:=by
 have h:∀ n:Fin 256,n.val ≠ 38 → n.val ≠ 60 → n.val ≠ 13 → n.val ≠ 34 → n.val ≠ 9 → n.val ≠ 10 → form valuePs (UInt8.ofNat n) = [UInt8.ofNat n]:=by decide +kernel
 have:=h ⟨x.toNat,x.toNat_lt⟩ h1 h2 h3 h4 h5 h6
 simpa using this
theorem u8_of {x:UInt8} {n:Nat} (h:x.toNat = n):x = UInt8.ofNat n:=by rw [← h];simp
theorem sign_conv (x:UInt8) (w:World):(convert 136 9 (.slice (some ⟨w.heap.size,0,none⟩) 1 1)).run Tryz.prog (w.alloc (.cells #[.int .u8 x.toNat] 5)) = .ok (.string (strL [x])) (w.alloc (.cells #[.int .u8 x.toNat] 5)) :=
 run_bytes_str (s:=strL [x]) (sl_new (l:=[x]) (e:=5) (p:=(0,0)) (heap_alloc_new w _)) 136 9 5 Tryz.underlying136 Tryz.underlying5 Tryz.underlying9 1
set_option maxRecDepth 1000000 in
set_option maxHeartbeats 4000000 in
theorem sign_any (x:UInt8) (q:Bool) (w:World) :
  Calls Tryz.prog 150 #[.int .u8 x.toNat,.bool q] w fun e w'=>e = .returned (.string (strL (form (if q then valuePs else textPs) x))) ∧ Below w.heap.size w w':=by
 have hb:∀ o,Below w.heap.size w (w.alloc o):=fun o=>(Below.refl _ _).alloc (Nat.le_refl _) o
 have hcv:=sign_conv x w
 have e:∀ k:Nat,(x.toNat ≠ k → ((x.toNat:Int) == (k:Int)) = false) ∧ (x.toNat = k → ((x.toNat:Int) == (k:Int)) = true):=fun k=>⟨fun h=>by simp;omega,fun h=>by simp;omega⟩
 by_cases h1:x.toNat = 38
 ·have:=u8_of h1;subst this
  cases q <;> (
   go_enter Tryz.func150,Tryz.ntmps150
   go_wp2_with fail
   go_ret
   exact ⟨by kernel_rfl,Below.refl _ _⟩)
 by_cases h2:x.toNat = 60
 ·have:=u8_of h2;subst this
  cases q <;> (
   go_enter Tryz.func150,Tryz.ntmps150
   go_wp2_with fail
   go_ret
   exact ⟨by kernel_rfl,Below.refl _ _⟩)
 by_cases h3:x.toNat = 13
 ·have:=u8_of h3;subst this
  cases q <;> (
   go_enter Tryz.func150,Tryz.ntmps150
   go_wp2_with fail
   go_ret
   exact ⟨by kernel_rfl,Below.refl _ _⟩)
 have e1:((x.toNat:Int) == 38) = false:=(e 38).1 h1
 have e2:((x.toNat:Int) == 60) = false:=(e 60).1 h2
 have e3:((x.toNat:Int) == 13) = false:=(e 13).1 h3
 cases q with
 | false =>
  by_cases h4:x.toNat = 62
  ·have:=u8_of h4;subst this
   go_enter Tryz.func150,Tryz.ntmps150
   go_wp2_with fail
   go_ret
   exact ⟨by kernel_rfl,Below.refl _ _⟩
  have e4:((x.toNat:Int) == 62) = false:=(e 62).1 h4
  have hf:=form_text_else x h1 h2 h3 h4
  generalize x.toNat = z at *
  go_enter Tryz.func150,Tryz.ntmps150
  go_wp2_with fail
  go_ret
  exact ⟨rfl,hb _⟩
 | true =>
  by_cases h4:x.toNat = 34
  ·have:=u8_of h4;subst this
   go_enter Tryz.func150,Tryz.ntmps150
   go_wp2_with fail
   go_ret
   exact ⟨by kernel_rfl,Below.refl _ _⟩
  by_cases h5:x.toNat = 9
  ·have:=u8_of h5;subst this
   go_enter Tryz.func150,Tryz.ntmps150
   go_wp2_with fail
   go_ret
   exact ⟨by kernel_rfl,Below.refl _ _⟩
  by_cases h6:x.toNat = 10
  ·have:=u8_of h6;subst this
   go_enter Tryz.func150,Tryz.ntmps150
   go_wp2_with fail
   go_ret
   exact ⟨by kernel_rfl,Below.refl _ _⟩
  have e4:((x.toNat:Int) == 34) = false:=(e 34).1 h4
  have e5:((x.toNat:Int) == 9) = false:=(e 9).1 h5
  have e6:((x.toNat:Int) == 10) = false:=(e 10).1 h6
  have hf:=form_value_else x h1 h2 h3 h4 h5 h6
  generalize x.toNat = z at *
  go_enter Tryz.func150,Tryz.ntmps150
  go_wp2_with fail
  go_ret
  exact ⟨rfl,hb _⟩
set_option maxRecDepth 1000000 in
set_option maxHeartbeats 4000000 in
theorem text9_any (l:List UInt8) (w:World) (hl:l.length ≤ 1048576) :
  Calls Tryz.prog 131 #[.string (strL l)] w fun e w'=>e = .returned (.string (strL (replL textPs l))) ∧ Below w.heap.size w w':=by
 obtain ⟨n,hn⟩:∃ n,l.length = n:=⟨_,rfl⟩
 rw [hn] at hl
 have hsz:(strL l).size = n:=by rw [strL_size,hn]
 have HN:=Lib.hid hn
 clear hn
 obtain ⟨i0,hi,hz0,hz1,hz2⟩:=info_parts infoU8b
 go_enter Tryz.func131,Tryz.ntmps131
 go_wp2_with fail
 go_loopw [3,4] (fun ov iv wr=>∃ i:Nat,iv = .int .i64 i ∧ i ≤ n ∧ Hid (Below w.heap.size w wr ∧ wr.ownsRow w.heap.size 5 1 ov (replL textPs (l.take i)).length (u8s (replL textPs (l.take i))))) (fun _ iv _=>n - (intOf iv).toNat)
 case atStart=>exact ⟨0,rfl,Nat.zero_le _,Lib.hid ⟨Below.refl _ _,World.ownsRow_nil _ _ _ _⟩⟩
 case round =>
  obtain ⟨i,rfl,hi',HR⟩:=hrel
  by_cases hin:i < n
  ·have hil:i < l.length:=by rw [HN.out];exact hin
   have hx:=fun W=>run_index_str (P:=Tryz.prog) 9 Tryz.underlying9 (strL l) i l[i] (by rw [strL_data];exact List.getElem?_eq_getElem hil) W
   have i1:(0:Int) ≤ (i:Int):=by omega
   have i2:(i:Int) < (n:Int):=by omega
   have ew:IntKind.i64.wrap ((i:Int) + 1) = (i:Int) + 1:=IntWalk.i64_in _ (by omega)
   go_wp2_with fail
   (with_reducible refine (sign_any l[i] false wr).mono ?_)
   rintro e w2 ⟨rfl,hb2⟩
   simp only [Bool.false_eq_true,if_false]
   have HB2:=Lib.hid (HR.out.1.trans (hb2.mono HR.out.1.size))
   have HOW:=Lib.hid (own_block HR.out.2 (fun k hk=>hb2.block k (HR.out.2.lt k hk).2))
   have hst:=replL_step textPs l i hil
   have hl1:=replL_len6 textPs form_text6 (l.take i)
   have hl2:=form_text6 l[i]
   have hl3:(l.take i).length ≤ 1048576:=by rw [List.length_take];omega
   generalize form textPs l[i] = fm at *
   have HST:=Lib.hid hst
   clear hst hb2
   obtain ⟨a9,c9,rfl,_,_,_⟩:=own_slice HOW.out
   go_wp2_with (at_builtin;go_must ((refine Lib.wpList_append_own_string w2 (by rfl) _ _ 136 9 (by rfl) w.heap.size 5 i0 Tryz.underlying136 Tryz.underlying9 hi hz0 hz1 hz2 _ _ _ (by rfl) HOW.out (strL fm) (by rfl) (by rw [strL_size];unfold maxLen;omega) (by rw [strL_size];omega) HB2.out.size (fun v' w3 hown hgr _=>?_))))
   have hb3:Below w.heap.size w w3:=HB2.out.grown hgr HB2.out.size (fun k hk=>(HOW.out.lt k hk).1)
   have hown3:w3.ownsRow w.heap.size 5 1 v' (replL textPs (l.take (i + 1))).length (u8s (replL textPs (l.take (i + 1)))):=by
    rw [HST.out,List.length_append]
    rw [strL_size] at hown
    have e:u8s (replL textPs (l.take i) ++ fm) = u8s (replL textPs (l.take i)) ++ Lib.strCells (strL fm):=by simp [u8s,Lib.strCells,strL]
    rw [e]
    exact hown
   have HN3:=Lib.hid (⟨hb3,hown3⟩:_ ∧ _)
   clear hb3 hown3 hown hgr
   go_wp2_with fail
   go_roundw
   case rel=>exact ⟨i + 1,by go_num,by omega,HN3⟩
   case measure=>simp [intOf];omega
  ·have hi2:i = n:=by omega
   subst hi2
   obtain ⟨a9,c9,rfl,_,_,_⟩:=own_slice HR.out.2
   have hfull:l.take i = l:=List.take_of_length_le (by rw [HN.out];exact Nat.le_refl _)
   have HOW:=Lib.hid HR.out.2
   rw [hfull] at HOW
   have hcv:=run_bytes_str (P:=Tryz.prog) (s:=strL (replL textPs l)) (own_sl9 HOW.out) 136 9 5 Tryz.underlying136 Tryz.underlying5 Tryz.underlying9 c9
   rw [hfull]
   clear hfull
   go_wp2_with fail
   go_ret
   exact ⟨rfl,HR.out.1⟩
set_option maxRecDepth 1000000 in
set_option maxHeartbeats 4000000 in
theorem quoted9_any (l:List UInt8) (w:World) (hl:l.length ≤ 1048576) :
  Calls Tryz.prog 132 #[.string (strL l)] w fun e w'=>e = .returned (.string (strL (replL valuePs l))) ∧ Below w.heap.size w w':=by
 obtain ⟨n,hn⟩:∃ n,l.length = n:=⟨_,rfl⟩
 rw [hn] at hl
 have hsz:(strL l).size = n:=by rw [strL_size,hn]
 have HN:=Lib.hid hn
 clear hn
 obtain ⟨i0,hi,hz0,hz1,hz2⟩:=info_parts infoU8b
 go_enter Tryz.func132,Tryz.ntmps132
 go_wp2_with fail
 go_loopw [3,4] (fun ov iv wr=>∃ i:Nat,iv = .int .i64 i ∧ i ≤ n ∧ Hid (Below w.heap.size w wr ∧ wr.ownsRow w.heap.size 5 1 ov (replL valuePs (l.take i)).length (u8s (replL valuePs (l.take i))))) (fun _ iv _=>n - (intOf iv).toNat)
 case atStart=>exact ⟨0,rfl,Nat.zero_le _,Lib.hid ⟨Below.refl _ _,World.ownsRow_nil _ _ _ _⟩⟩
 case round =>
  obtain ⟨i,rfl,hi',HR⟩:=hrel
  by_cases hin:i < n
  ·have hil:i < l.length:=by rw [HN.out];exact hin
   have hx:=fun W=>run_index_str (P:=Tryz.prog) 9 Tryz.underlying9 (strL l) i l[i] (by rw [strL_data];exact List.getElem?_eq_getElem hil) W
   have i1:(0:Int) ≤ (i:Int):=by omega
   have i2:(i:Int) < (n:Int):=by omega
   have ew:IntKind.i64.wrap ((i:Int) + 1) = (i:Int) + 1:=IntWalk.i64_in _ (by omega)
   go_wp2_with fail
   (with_reducible refine (sign_any l[i] true wr).mono ?_)
   rintro e w2 ⟨rfl,hb2⟩
   simp only [if_true]
   have HB2:=Lib.hid (HR.out.1.trans (hb2.mono HR.out.1.size))
   have HOW:=Lib.hid (own_block HR.out.2 (fun k hk=>hb2.block k (HR.out.2.lt k hk).2))
   have hst:=replL_step valuePs l i hil
   have hl1:=replL_len6 valuePs form_value6 (l.take i)
   have hl2:=form_value6 l[i]
   have hl3:(l.take i).length ≤ 1048576:=by rw [List.length_take];omega
   generalize form valuePs l[i] = fm at *
   have HST:=Lib.hid hst
   clear hst hb2
   obtain ⟨a9,c9,rfl,_,_,_⟩:=own_slice HOW.out
   go_wp2_with (at_builtin;go_must ((refine Lib.wpList_append_own_string w2 (by rfl) _ _ 136 9 (by rfl) w.heap.size 5 i0 Tryz.underlying136 Tryz.underlying9 hi hz0 hz1 hz2 _ _ _ (by rfl) HOW.out (strL fm) (by rfl) (by rw [strL_size];unfold maxLen;omega) (by rw [strL_size];omega) HB2.out.size (fun v' w3 hown hgr _=>?_))))
   have hb3:Below w.heap.size w w3:=HB2.out.grown hgr HB2.out.size (fun k hk=>(HOW.out.lt k hk).1)
   have hown3:w3.ownsRow w.heap.size 5 1 v' (replL valuePs (l.take (i + 1))).length (u8s (replL valuePs (l.take (i + 1)))):=by
    rw [HST.out,List.length_append]
    rw [strL_size] at hown
    have e:u8s (replL valuePs (l.take i) ++ fm) = u8s (replL valuePs (l.take i)) ++ Lib.strCells (strL fm):=by simp [u8s,Lib.strCells,strL]
    rw [e]
    exact hown
   have HN3:=Lib.hid (⟨hb3,hown3⟩:_ ∧ _)
   clear hb3 hown3 hown hgr
   go_wp2_with fail
   go_roundw
   case rel=>exact ⟨i + 1,by go_num,by omega,HN3⟩
   case measure=>simp [intOf];omega
  ·have hi2:i = n:=by omega
   subst hi2
   obtain ⟨a9,c9,rfl,_,_,_⟩:=own_slice HR.out.2
   have hfull:l.take i = l:=List.take_of_length_le (by rw [HN.out];exact Nat.le_refl _)
   have HOW:=Lib.hid HR.out.2
   rw [hfull] at HOW
   have hcv:=run_bytes_str (P:=Tryz.prog) (s:=strL (replL valuePs l)) (own_sl9 HOW.out) 136 9 5 Tryz.underlying136 Tryz.underlying5 Tryz.underlying9 c9
   rw [hfull]
   clear hfull
   go_wp2_with fail
   go_ret
   exact ⟨rfl,HR.out.1⟩
end Go.Proofs.YtgjokdngbocehaaGreatDoor
namespace Go.Proofs.YtgjokdngbocehaaGreatDoor
open Go.RowKit
set_option maxRecDepth 1000000 in
set_option maxHeartbeats 4000000 in
theorem piece9_any (kd num dep fr tt:Int) (name text:List UInt8) (A:Option Addr) (m c:Nat) (ats:List (List UInt8 × List UInt8)) (w:World) (hA:AttrsAt w A m ats) (hk:kd = 0 ∨ kd = 1 ∨ kd = 2)
  (hn:name.length ≤ 1048576) (ht:text.length ≤ 1048576) (hm:m ≤ 1048576) (hal:∀ p ∈ ats,p.1.length ≤ 1048576 ∧ p.2.length ≤ 1048576) (htot:(ats.flatMap attrW).length ≤ 67108864) :
  Calls Tryz.prog 104 #[.agg (evC kd num dep name A m c text fr tt)] w fun e w'=>e = .returned (.string (strL (eventW kd name ats text))) ∧ Below w.heap.size w w':=by
 have HA:=Lib.hid hA
 have HAL:=Lib.hid hal
 have hb:∀ o,Below w.heap.size w (w.alloc o):=fun o=>(Below.refl _ _).alloc (Nat.le_refl _) o
 have HBO:=Lib.hid hb
 have HX:Hid (∀ o W,Below (w.alloc o).heap.size (w.alloc o) W → W.heap[w.heap.size]? = some o):=Lib.hid fun o W hW=>(hW.block _ (by simp)).trans (heap_alloc_new w o)
 clear hA hal hb
 rcases hk with rfl | rfl | rfl
 ·have HEV:Hid (eventW 0 name ats text = [60] ++ name ++ ats.flatMap attrW ++ [62]):=Lib.hid (by unfold eventW;rw [if_pos rfl])
  obtain ⟨q0,hq0⟩:∃ q0,[60] ++ name = q0:=⟨_,rfl⟩
  have hq0l:q0.length ≤ 1048577:=by rw [← hq0];simp;omega
  have k1:∀ W,(Op.stringOp .add ⟨#[60]⟩ (strL name)).run Tryz.prog W = .ok (.string (strL q0)) W:=fun W=>by rw [← hq0];exact run_catL [60] name (by simp;omega) W
  have HQ0:=Lib.hid hq0
  have HTK:Hid (∀ i,((ats.take i).flatMap attrW).length ≤ 67108864):=Lib.hid fun i=>by
   have h:ats.flatMap attrW = (ats.take i).flatMap attrW ++ (ats.drop i).flatMap attrW:=by rw [← List.flatMap_append,List.take_append_drop]
   rw [h,List.length_append] at htot
   omega
  clear hq0
  unfold evC
  go_enter Tryz.func104,Tryz.ntmps104
  go_wp2_with fail
  go_loopw [3,4] (fun sv iv wr=>∃ (i:Nat) (s0:List UInt8),iv = .int .i64 i ∧ i ≤ m ∧ sv = .string (strL s0) ∧ Hid (Below w.heap.size w wr ∧ s0 = q0 ++ (ats.take i).flatMap attrW ∧ wr.heap[w.heap.size]? = some (.cells #[.int .i64 0,.int .i64 num,.int .i64 dep,.string (strL name),.slice A m c,.string (strL text),.int .i64 fr,.int .i64 tt] 47 (0,0)))) (fun _ iv _=>m - (intOf iv).toNat)
  case atStart=>exact ⟨0,q0,rfl,Nat.zero_le _,rfl,Lib.hid ⟨HBO.out _,by simp,heap_alloc_new w _⟩⟩
  case round =>
   obtain ⟨i,s0,rfl,hi',rfl,HR⟩:=hrel
   have b4:wr.cell? ⟨w.heap.size,4,none⟩ = some (.slice A m c):=by rw [cell_heap HR.out.2.2];rfl
   have hs0l:s0.length ≤ 68157441:=by have:=HTK.out i;rw [HR.out.2.1,List.length_append];omega
   by_cases him:i < m
   ·have hil:i < ats.length:=by rw [← HA.out.1];exact him
    obtain ⟨b,o,rfl,hbl,p1,p2⟩:=(HA.out.below HR.out.1).2 i hil
    have hpl:=HAL.out _ (List.getElem_mem hil)
    have hstep:(ats.take (i + 1)).flatMap attrW = (ats.take i).flatMap attrW ++ ([32] ++ ats[i].1 ++ [61,34] ++ replL valuePs ats[i].2 ++ [34]):=flat_drop attrW ats i hil
    have hv6:=replL_len6 valuePs form_value6 ats[i].2
    have HQU:Hid (∀ W,Calls Tryz.prog 132 #[.string (strL ats[i].2)] W fun e w'=>e = .returned (.string (strL (replL valuePs ats[i].2))) ∧ Below W.heap.size W w'):=Lib.hid fun W=>quoted9_any ats[i].2 W hpl.2
    generalize ats[i].1 = an at *
    generalize ats[i].2 = av at *
    obtain ⟨rv,hrv⟩:∃ rv,replL valuePs av = rv:=⟨_,rfl⟩
    rw [hrv] at hstep hv6 HQU
    obtain ⟨hp1,hp2⟩:=hpl
    obtain ⟨s1,h1⟩:∃ s1,s0 ++ [32] = s1:=⟨_,rfl⟩
    obtain ⟨s2,h2⟩:∃ s2,s1 ++ an = s2:=⟨_,rfl⟩
    obtain ⟨s3,h3⟩:∃ s3,s2 ++ [61,34] = s3:=⟨_,rfl⟩
    obtain ⟨s4,h4⟩:∃ s4,s3 ++ rv = s4:=⟨_,rfl⟩
    obtain ⟨s5,h5⟩:∃ s5,s4 ++ [34] = s5:=⟨_,rfl⟩
    have l1:s1.length = s0.length + 1:=by rw [← h1];simp
    have l2:s2.length = s1.length + an.length:=by rw [← h2];simp
    have l3:s3.length = s2.length + 2:=by rw [← h3];simp
    have l4:s4.length = s3.length + rv.length:=by rw [← h4];simp
    have c1:∀ W,(Op.stringOp .add (strL s0) ⟨#[32]⟩).run Tryz.prog W = .ok (.string (strL s1)) W:=fun W=>by rw [← h1];exact run_catL s0 [32] (by simp;omega) W
    have c2:∀ W,(Op.stringOp .add (strL s1) (strL an)).run Tryz.prog W = .ok (.string (strL s2)) W:=fun W=>by rw [← h2];exact run_catL s1 an (by omega) W
    have c3:∀ W,(Op.stringOp .add (strL s2) ⟨#[61,34]⟩).run Tryz.prog W = .ok (.string (strL s3)) W:=fun W=>by rw [← h3];exact run_catL s2 [61,34] (by simp;omega) W
    have c4:∀ W,(Op.stringOp .add (strL s3) (strL rv)).run Tryz.prog W = .ok (.string (strL s4)) W:=fun W=>by rw [← h4];exact run_catL s3 rv (by omega) W
    have c5:∀ W,(Op.stringOp .add (strL s4) ⟨#[34]⟩).run Tryz.prog W = .ok (.string (strL s5)) W:=fun W=>by rw [← h5];exact run_catL s4 [34] (by simp;omega) W
    have HNX:Hid (s5 = q0 ++ (ats.take (i + 1)).flatMap attrW):=Lib.hid (by rw [hstep,← h5,← h4,← h3,← h2,← h1,HR.out.2.1];simp only [List.append_assoc])
    have i1:(0:Int) ≤ (i:Int):=by omega
    have i2:(i:Int) < (m:Int):=by omega
    have ew:IntKind.i64.wrap ((i:Int) + 1) = (i:Int) + 1:=IntWalk.i64_in _ (by omega)
    have hlw:=heap_lt HR.out.2.2
    have HS:Hid (∀ W,Below wr.heap.size wr W → W.cell? ⟨w.heap.size,4,none⟩ = some (.slice (some ⟨b,o,none⟩) m c) ∧ W.cell? ⟨b,o + i * 2,none⟩ = some (.string (strL an)) ∧ W.cell? ⟨b,o + i * 2 + 1,none⟩ = some (.string (strL av)) ∧ Below wr.heap.size wr W):=Lib.hid fun W hW=>⟨(hW.cell (p:=⟨w.heap.size,4,none⟩) hlw).trans b4,(hW.cell (p:=⟨b,o + i * 2,none⟩) hbl).trans p1,(hW.cell (p:=⟨b,o + i * 2 + 1,none⟩) hbl).trans p2,hW⟩
    have HDR:=(Below.refl wr.heap.size wr).drew
    have HQK:Hid (∀ W,Below wr.heap.size wr W → Calls Tryz.prog 132 #[.string (strL av)] W fun e w'=>e = .returned (.string (strL rv)) ∧ Below wr.heap.size wr w'):=Lib.hid fun W hW=>(HQU.out W).mono fun e w' ⟨h1,h2⟩=>⟨h1,hW.trans (h2.mono hW.size)⟩
    clear h1 h2 h3 h4 h5 l1 l2 l3 l4 hstep hrv hv6
    go_wp2_with fail
    go_region_held3 (fun w'=>w'.cell? ⟨w.heap.size,4,none⟩ = some (.slice (some ⟨b,o,none⟩) m c) ∧ w'.cell? ⟨b,o + i * 2,none⟩ = some (.string (strL an)) ∧ w'.cell? ⟨b,o + i * 2 + 1,none⟩ = some (.string (strL av)) ∧ Below wr.heap.size wr w') (first | exact HS.out _ ‹_› | exact HS.out _ HDR) (first | (go_at_call 132;(with_reducible refine (HQK.out _ ‹_›).mono ?_);rintro e w3 ⟨rfl,hb3⟩))
    have HB3:=Lib.hid hb3
    clear hb3
    go_wp2_with fail
    go_roundw
    case rel=>exact ⟨i + 1,s5,by go_num,by omega,rfl,Lib.hid ⟨HR.out.1.trans (HB3.out.mono HR.out.1.size),HNX.out,(HB3.out.block _ hlw).trans HR.out.2.2⟩⟩
    case measure=>simp [intOf];omega
   ·have him2:i = m:=by omega
    subst him2
    have hfull:ats.take i = ats:=List.take_of_length_le (by rw [← HA.out.1];exact Nat.le_refl _)
    obtain ⟨s1,h1⟩:∃ s1,s0 ++ [62] = s1:=⟨_,rfl⟩
    have c1:∀ W,(Op.stringOp .add (strL s0) ⟨#[62]⟩).run Tryz.prog W = .ok (.string (strL s1)) W:=fun W=>by rw [← h1];exact run_catL s0 [62] (by simp;omega) W
    have HF:Hid (s1 = eventW 0 name ats text):=Lib.hid (by rw [HEV.out,← h1,HR.out.2.1,hfull,HQ0.out])
    clear h1 hfull
    go_wp2_with fail
    go_ret
    exact ⟨by rw [← HF.out];rfl,HR.out.1⟩
 ·have HTX:Hid (∀ W,Calls Tryz.prog 131 #[.string (strL text)] W fun e w'=>e = .returned (.string (strL (replL textPs text))) ∧ Below W.heap.size W w'):=Lib.hid fun W=>text9_any text W ht
  have HEV:Hid (eventW 1 name ats text = replL textPs text):=Lib.hid (by unfold eventW;rw [if_neg (by decide),if_pos rfl])
  unfold evC
  go_enter Tryz.func104,Tryz.ntmps104
  go_wp2_with fail
  (with_reducible refine (HTX.out _).mono ?_)
  rintro e w2 ⟨rfl,hb2⟩
  have HB2:=Lib.hid ((HBO.out _).trans (hb2.mono (HBO.out _).size))
  clear hb2
  go_wp2_with fail
  go_ret
  exact ⟨by rw [HEV.out];rfl,HB2.out⟩
 ·obtain ⟨q0,hq0⟩:∃ q0,[60,47] ++ name = q0:=⟨_,rfl⟩
  have hq0l:q0.length ≤ 1048578:=by rw [← hq0];simp;omega
  obtain ⟨q1,hq1⟩:∃ q1,q0 ++ [62] = q1:=⟨_,rfl⟩
  have k1:∀ W,(Op.stringOp .add ⟨#[60,47]⟩ (strL name)).run Tryz.prog W = .ok (.string (strL q0)) W:=fun W=>by rw [← hq0];exact run_catL [60,47] name (by simp;omega) W
  have k2:∀ W,(Op.stringOp .add (strL q0) ⟨#[62]⟩).run Tryz.prog W = .ok (.string (strL q1)) W:=fun W=>by rw [← hq1];exact run_catL q0 [62] (by simp;omega) W
  have HEV:Hid (eventW 2 name ats text = q1):=Lib.hid (by unfold eventW;rw [if_neg (by decide),if_neg (by decide),if_pos rfl,← hq1,← hq0])
  clear hq0 hq1
  unfold evC
  go_enter Tryz.func104,Tryz.ntmps104
  go_wp2_with fail
  go_ret
  exact ⟨by rw [HEV.out];rfl,HBO.out _⟩
end Go.Proofs.YtgjokdngbocehaaGreatDoor
