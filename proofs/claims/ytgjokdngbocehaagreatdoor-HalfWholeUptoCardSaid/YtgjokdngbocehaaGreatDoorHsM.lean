/-
  (*tree.Tree).Value of any node, and beside them.
-/
import Derived.Test.YtgjokdngbocehaaGreatDoorHsA
import Derived.Test.YtgjokdngbocehaaGreatDoorHsD
import Derived.Test.YtgjokdngbocehaaGreatDoorHsE
import Derived.Test.YtgjokdngbocehaaGreatDoorHsF
import Derived.Test.YtgjokdngbocehaaGreatDoorHsH
namespace Go.Proofs.YtgjokdngbocehaaGreatDoor
open Go.RowKit
theorem TreeAt.below {w w':World} {B tb:Nat} {evs:List Ev} (h:TreeAt w B tb evs) (hb:Below w.heap.size w w'):TreeAt w' B tb evs:=h.keep hb.size (fun j _ hj=>hb.block j hj)
theorem treeLast {w:World} {B tb:Nat} {evs:List Ev} (h:TreeAt w B tb evs) (hw:wholeB evs = true):LastAt w (fun k=>B ≤ k ∧ k < w.heap.size) tb (nodesB evs).length (lastN evs):=by
 obtain ⟨t,ht,_,_⟩:=wholeB_some hw
 obtain ⟨h1,h2,ge,n,an,cn,h3,h4,h5,h6,h7,h8,h9⟩:=h
 refine ⟨⟨h2,h1⟩,_,an,cn,h3,h5,fun i hi=>?_⟩
 obtain ⟨b,e,A,m,c,g1,g2,g3,g4,g5,g6,g7,g8⟩:=h9 i _ (List.getElem?_eq_getElem hi)
 refine ⟨b,g1,⟨g2,g3⟩,?_⟩
 rw [g8 9 (by decide),lastN_at ht (List.getElem?_eq_getElem hi)]
 rfl
theorem treeText {w:World} {B tb:Nat} {evs:List Ev} (h:TreeAt w B tb evs):∃ q an cn,w.heap[tb]? = some (.cells #[q,.slice an (nodesB evs).length cn] 109 (0,0)) ∧ ∀ k,k < (nodesB evs).length → ∃ b,an = some ⟨b,0,none⟩ ∧ b < w.heap.size ∧ w.cell? ⟨b,k * 12 + 5,none⟩ = some (.string (strL (ndTxt evs k))):=by
 obtain ⟨h1,h2,ge,n,an,cn,h3,h4,h5,h6,h7,h8,h9⟩:=h
 refine ⟨_,an,cn,h3,fun i hi=>?_⟩
 obtain ⟨b,e,A,m,c,g1,g2,g3,g4,g5,g6,g7,g8⟩:=h9 i _ (List.getElem?_eq_getElem hi)
 refine ⟨b,g1,g3,?_⟩
 rw [g8 5 (by decide)]
 unfold ndTxt
 rw [List.getElem?_eq_getElem hi]
 simp only [Option.bind_some,g4,Option.map_some,Option.getD_some]
 rfl
def txtR (evs:List Ev) (i hi:Nat):List UInt8:=(List.range' i (hi - i)).flatMap (ndTxt evs)
theorem txtR_succ (evs:List Ev) {i k:Nat} (h:i ≤ k):txtR evs i (k + 1) = txtR evs i k ++ ndTxt evs k:=by
 unfold txtR
 rw [show k + 1 - i = k - i + 1 by omega,List.range'_concat,List.flatMap_append]
 simp only [List.flatMap_cons,List.flatMap_nil,List.append_nil,Nat.one_mul]
 rw [show i + (k - i) = k by omega]
theorem ndTxt_len (evs:List Ev) (h:∀ e ∈ evs,e.text.length ≤ 1048576) (k:Nat):(ndTxt evs k).length ≤ 1048576:=by
 unfold ndTxt
 cases h1:(nodesB evs)[k]? with
 | none=>simp
 | some x =>
  simp only [Option.bind_some]
  cases h2:evs[x.pos]? with
  | none=>simp
  | some e=>simp only [Option.map_some,Option.getD_some];exact h e (List.mem_of_getElem? h2)
theorem txtR_len (evs:List Ev) (h:∀ e ∈ evs,e.text.length ≤ 1048576) (i:Nat):∀ k,i ≤ k → (txtR evs i k).length ≤ (k - i) * 1048576:=by
 intro k hk
 induction k with
 | zero=>have:i = 0:=by omega
         subst this;simp [txtR]
 | succ k ih =>
  by_cases h1:i = k + 1
  ·subst h1;simp [txtR]
  ·rw [txtR_succ evs (by omega),List.length_append]
   have:=ih (by omega)
   have:=ndTxt_len evs h k
   have e:(k + 1 - i) * 1048576 = (k - i) * 1048576 + 1048576:=by rw [show k + 1 - i = (k - i) + 1 by omega,Nat.add_mul]
   omega
set_option maxRecDepth 1000000 in
set_option maxHeartbeats 4000000 in
theorem value_at (tb i:Nat) (v:Int) (evs:List Ev) (w:World) {B:Nat} (h:TreeAt w B tb evs) (hw:wholeB evs = true) (hi:v = (i:Nat) ∨ v = -1 ∧ i = 0) (hv:v < (nodesB evs).length) (hsm:∀ e ∈ evs,e.text.length ≤ 1048576) (hL:(nodesB evs).length ≤ 1048576) :
  Calls Tryz.prog 156 #[.pointer (some ⟨tb,0,none⟩),.int .i64 v] w fun e w'=>e = .returned (.tuple #[.string (strL (txtR evs i (hiOf (nodesB evs).length (lastN evs) v))),.int .i64 0]) ∧ Below w.heap.size w w':=by
 obtain ⟨t,ht,_,_⟩:=wholeB_some hw
 have hrng:=lastN_rng ht
 have hpos:=wholeB_pos hw
 have htl:=treeLast h hw
 obtain ⟨q,an,cn,htb,htx⟩:=treeText h
 have hhi:hiOf (nodesB evs).length (lastN evs) v ≤ (nodesB evs).length ∧ i ≤ hiOf (nodesB evs).length (lastN evs) v:=by
  unfold hiOf
  split
  ·omega
  ·have h1:=hrng v.toNat (by omega);omega
 have HLA:Hid (∀ W,Below w.heap.size w W → Calls Tryz.prog 136 #[.pointer (some ⟨tb,0,none⟩),.int .i64 v] W fun e w'=>e = .returned (.int .i64 ((hiOf (nodesB evs).length (lastN evs) v:Nat) - 1:Int)) ∧ w' = W):=Lib.hid fun W hW=>lastv (htl.keep fun k hk=>hW.block k hk.2) hL v hv
 have HREF:Hid (Calls Tryz.prog 46 #[.pointer (some ⟨tb,0,none⟩),.int .i64 v,.int .i64 (-1)] w fun e w'=>e = .returned (.int .i64 0) ∧ w' = w):=Lib.hid (refuses_in htl v (-1) (by omega) hv)
 have HB0:Hid (Below w.heap.size w (w.alloc (.cells #[.pointer none,.slice none 0 0] 138)) ∧ IsB w.heap.size w.heap.size (u8s []) (w.alloc (.cells #[.pointer none,.slice none 0 0] 138))):=Lib.hid ⟨(Below.refl _ _).alloc (Nat.le_refl _) _,isB_new w w.heap.size (Nat.le_refl _)⟩
 have HTX:=Lib.hid htx
 have c1:w.cell? ⟨tb,1,none⟩ = some (.slice an (nodesB evs).length cn):=by rw [cell_heap htb];rfl
 have HTB:=Lib.hid (heap_lt htb)
 have HC1:=Lib.hid c1
 have HLN:=Lib.hid (fun k (hk:i ≤ k)=>txtR_len evs hsm i k hk)
 have HTL:=Lib.hid (ndTxt_len evs hsm)
 generalize hiOf (nodesB evs).length (lastN evs) v = hi' at *
 generalize (nodesB evs).length = L at *
 have htx0:Hid (txtR evs i i = []):=Lib.hid (by simp [txtR])
 clear htx htl hrng h hsm htb ht hw hpos c1
 rcases hi with rfl | ⟨rfl,rfl⟩
 all_goals (
  go_enter Tryz.func156,Tryz.ntmps156
  go_wp2_with (first | (go_at_call 46;(with_reducible refine HREF.out.mono ?_);rintro e w' ⟨rfl,hw'⟩;subst w')))
 ·go_loopw [8] (fun kx wr=>∃ k:Nat,kx = .int .i64 k ∧ i ≤ k ∧ k ≤ hi' ∧ Below w.heap.size w wr ∧ Hid (IsB w.heap.size w.heap.size (u8s (txtR evs i k)) wr)) (fun kx _=>hi' - (intOf kx).toNat)
  case atStart=>exact ⟨i,by go_num,Nat.le_refl _,hhi.2,HB0.out.1,by rw [htx0.out];exact Lib.hid HB0.out.2⟩
  case round =>
   obtain ⟨k,rfl,hik,hk,hbr,hB⟩:=hrel
   have HLW:=Lib.hid (HLA.out wr hbr)
   have d1:=(hbr.cell (p:=⟨tb,1,none⟩) HTB.out).trans HC1.out
   by_cases hkh:k < hi'
   ·obtain ⟨b,rfl,hbw,hct⟩:=HTX.out k (by omega)
    have e5:=(hbr.cell (p:=⟨b,k * 12 + 5,none⟩) hbw).trans hct
    have j0:(k:Int) ≤ (hi':Int) - 1:=by omega
    have j1:(0:Int) ≤ (k:Int):=by omega
    have j2:(k:Int) < (L:Int):=by omega
    have ew:IntKind.i64.wrap ((k:Int) + 1) = (k:Int) + 1:=IntWalk.i64_in _ (by omega)
    have HWS:=Lib.hid (bwriteL_any w.heap.size w.heap.size (txtR evs i k) (ndTxt evs k) wr hB.out (by have:=HLN.out k (by omega);have:=HTL.out k;omega) hbr.size)
    have HBR:=Lib.hid hbr
    have HTS:Hid (txtR evs i (k + 1) = txtR evs i k ++ ndTxt evs k):=Lib.hid (txtR_succ evs hik)
    generalize ndTxt evs k = T at *
    clear hbr hB hct hbw
    go_wp2_with (first | (go_at_call 136;(with_reducible refine HLW.out.mono ?_);rintro e w' ⟨rfl,hw'⟩;subst w'))
    (with_reducible refine HWS.out.mono ?_)
    rintro r w3 ⟨rfl,hB3,hb3⟩
    have HB3:=Lib.hid hB3
    have hbw3:=HBR.out.trans hb3
    clear hB3 hb3
    go_wp2_with fail
    go_roundw
    case rel=>exact ⟨k + 1,by go_num,by omega,by omega,hbw3,by rw [HTS.out];exact HB3⟩
    case measure=>simp [intOf];omega
   ·have hk2:k = hi':=by omega
    subst hk2
    have j0:(k:Int) - 1 < (k:Int):=by omega
    have HS:=Lib.hid (bstring_any w.heap.size w.heap.size (txtR evs i k) wr hB.out hbr.size)
    have HBR:=Lib.hid hbr
    clear hB hbr
    go_wp2_with (first | (go_at_call 136;(with_reducible refine HLW.out.mono ?_);rintro e w' ⟨rfl,hw'⟩;subst w'))
    (with_reducible refine HS.out.mono ?_)
    rintro r w3 ⟨rfl,_,hb3⟩
    go_wp2_with fail
    go_ret2
    exact ⟨rfl,HBR.out.trans hb3⟩
 ·go_loopw [8] (fun kx wr=>∃ k:Nat,kx = .int .i64 k ∧ 0 ≤ k ∧ k ≤ hi' ∧ Below w.heap.size w wr ∧ Hid (IsB w.heap.size w.heap.size (u8s (txtR evs 0 k)) wr)) (fun kx _=>hi' - (intOf kx).toNat)
  case atStart=>exact ⟨0,rfl,Nat.le_refl _,hhi.2,HB0.out.1,by rw [htx0.out];exact Lib.hid HB0.out.2⟩
  case round =>
   obtain ⟨k,rfl,hik,hk,hbr,hB⟩:=hrel
   have HLW:=Lib.hid (HLA.out wr hbr)
   have d1:=(hbr.cell (p:=⟨tb,1,none⟩) HTB.out).trans HC1.out
   by_cases hkh:k < hi'
   ·obtain ⟨b,rfl,hbw,hct⟩:=HTX.out k (by omega)
    have e5:=(hbr.cell (p:=⟨b,k * 12 + 5,none⟩) hbw).trans hct
    have j0:(k:Int) ≤ (hi':Int) - 1:=by omega
    have j1:(0:Int) ≤ (k:Int):=by omega
    have j2:(k:Int) < (L:Int):=by omega
    have ew:IntKind.i64.wrap ((k:Int) + 1) = (k:Int) + 1:=IntWalk.i64_in _ (by omega)
    have HWS:=Lib.hid (bwriteL_any w.heap.size w.heap.size (txtR evs 0 k) (ndTxt evs k) wr hB.out (by have:=HLN.out k (by omega);have:=HTL.out k;omega) hbr.size)
    have HBR:=Lib.hid hbr
    have HTS:Hid (txtR evs 0 (k + 1) = txtR evs 0 k ++ ndTxt evs k):=Lib.hid (txtR_succ evs hik)
    generalize ndTxt evs k = T at *
    clear hbr hB hct hbw
    go_wp2_with (first | (go_at_call 136;(with_reducible refine HLW.out.mono ?_);rintro e w' ⟨rfl,hw'⟩;subst w'))
    (with_reducible refine HWS.out.mono ?_)
    rintro r w3 ⟨rfl,hB3,hb3⟩
    have HB3:=Lib.hid hB3
    have hbw3:=HBR.out.trans hb3
    clear hB3 hb3
    go_wp2_with fail
    go_roundw
    case rel=>exact ⟨k + 1,by go_num,by omega,by omega,hbw3,by rw [HTS.out];exact HB3⟩
    case measure=>simp [intOf];omega
   ·have hk2:k = hi':=by omega
    subst hk2
    have j0:(k:Int) - 1 < (k:Int):=by omega
    have HS:=Lib.hid (bstring_any w.heap.size w.heap.size (txtR evs 0 k) wr hB.out hbr.size)
    have HBR:=Lib.hid hbr
    clear hB hbr
    go_wp2_with (first | (go_at_call 136;(with_reducible refine HLW.out.mono ?_);rintro e w' ⟨rfl,hw'⟩;subst w'))
    (with_reducible refine HS.out.mono ?_)
    rintro r w3 ⟨rfl,_,hb3⟩
    go_wp2_with fail
    go_ret2
    exact ⟨rfl,HBR.out.trans hb3⟩
end Go.Proofs.YtgjokdngbocehaaGreatDoor
