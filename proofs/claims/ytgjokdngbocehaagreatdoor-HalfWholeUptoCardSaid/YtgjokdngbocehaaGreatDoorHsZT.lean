/-
  A tree of moderate size: from the bulk of its events; an event's parts from its weight.
-/
import Derived.Test.YtgjokdngbocehaaGreatDoorHsA
import Derived.Test.YtgjokdngbocehaaGreatDoorHsC
import Derived.Test.YtgjokdngbocehaaGreatDoorHsD
import Derived.Test.YtgjokdngbocehaaGreatDoorHsE
import Derived.Test.YtgjokdngbocehaaGreatDoorHsF
import Derived.Test.YtgjokdngbocehaaGreatDoorHsH
import Derived.Test.YtgjokdngbocehaaGreatDoorHsL
import Derived.Test.YtgjokdngbocehaaGreatDoorHsM
import Derived.Test.YtgjokdngbocehaaGreatDoorHsN
import Derived.Test.YtgjokdngbocehaaGreatDoorHsO
import Derived.Test.YtgjokdngbocehaaGreatDoorHsU
import Derived.Test.YtgjokdngbocehaaGreatDoorHsV
import Derived.Test.YtgjokdngbocehaaGreatDoorHsZD
import Derived.Test.YtgjokdngbocehaaGreatDoorHsZE
import Derived.Test.YtgjokdngbocehaaGreatDoorHsZG
import Derived.Test.YtgjokdngbocehaaGreatDoorHsZH
import Derived.Test.YtgjokdngbocehaaGreatDoorHsZI
import Derived.Test.YtgjokdngbocehaaGreatDoorHsZK
import Derived.Test.YtgjokdngbocehaaGreatDoorHsZL
import Derived.Test.YtgjokdngbocehaaGreatDoorHsZR
import Derived.Test.YtgjokdngbocehaaGreatDoorHsZS
namespace Go.Proofs.YtgjokdngbocehaaGreatDoor
open Go.RowKit
theorem sum_nodup (g:Nat → Nat):∀ (n:Nat) (ks:List Nat),ks.Nodup → (∀ k ∈ ks,k < n) → (ks.map g).sum ≤ ((List.range n).map g).sum
 | 0,ks,_,h=>by
  cases ks with
  | nil=>simp
  | cons k r=>have:=h k List.mem_cons_self;omega
 | n + 1,ks,hn,h=>by
  rw [List.range_succ,List.map_append,List.sum_append]
  simp only [List.map_cons,List.map_nil,List.sum_cons,List.sum_nil,Nat.add_zero]
  by_cases hm:n ∈ ks
  ·have hp:=List.perm_cons_erase hm
   have e:(ks.map g).sum = g n + ((ks.erase n).map g).sum:=by
    rw [(hp.map g).sum_nat];simp
   have:=sum_nodup g n (ks.erase n) (hn.erase n) (fun k hk=>by
    have h1:=h k (List.mem_of_mem_erase hk)
    have h2:k ≠ n:=fun e=>by subst e;exact hn.not_mem_erase hk
    omega)
   omega
  ·have:=sum_nodup g n ks hn (fun k hk=>by
    have h1:=h k hk
    have h2:k ≠ n:=fun e=>by subst e;exact hm hk
    omega)
   omega
def txG (evs:List Ev) (p:Nat):Nat:=((evs[p]?).map fun e=>e.text.length).getD 0
theorem txG_sum (evs:List Ev):((List.range evs.length).map (txG evs)).sum ≤ wtEs evs:=by
 have e:(List.range evs.length).map (txG evs) = evs.map (fun e=>e.text.length):=by
  refine List.ext_getElem (by simp) fun i h1 h2=>?_
  have hi:i < evs.length:=by simpa using h2
  simp [txG,List.getElem?_eq_getElem hi]
 rw [e]
 unfold wtEs
 clear e
 induction evs with
 | nil=>simp
 | cons x r ih=>simp only [List.map_cons,List.sum_cons,wtE];omega
def posN (evs:List Ev) (k:Nat):Nat:=((nodesB evs)[k]?.map (·.pos)).getD 0
theorem txtR_bulk {evs:List Ev} (hw:wholeB evs = true) {i hi:Nat} (hhi:hi ≤ (nodesB evs).length):(txtR evs i hi).length ≤ wtEs evs:=by
 obtain ⟨t,ht,_,_⟩:=wholeB_some hw
 have hinv:=NdInv.start.all evs ht
 rw [List.nil_append] at hinv
 have hk:∀ k,k < (nodesB evs).length → ∃ e,evs[posN evs k]? = some e ∧ e.num = (k:Int) ∧ (ndTxt evs k).length = txG evs (posN evs k):=fun k hk=>by
  have hx:(nodesB evs)[k]? = some (nodesB evs)[k]:=List.getElem?_eq_getElem hk
  obtain ⟨e,he,_,hn⟩:=hinv.here k _ hx
  have hp:posN evs k = (nodesB evs)[k].pos:=by unfold posN;rw [hx];rfl
  refine ⟨e,by rw [hp];exact he,hn,?_⟩
  unfold ndTxt txG
  rw [hp,hx]
  simp [he]
 have hmem:∀ k ∈ List.range' i (hi - i),k < (nodesB evs).length:=fun k h=>by rw [List.mem_range'_1] at h;omega
 have e:(txtR evs i hi).length = (((List.range' i (hi - i)).map (posN evs)).map (txG evs)).sum:=by
  unfold txtR
  rw [List.length_flatMap,List.map_map]
  congr 1
  refine List.map_congr_left fun k h=>?_
  obtain ⟨_,_,_,h3⟩:=hk k (hmem k h)
  exact h3
 rw [e]
 refine Nat.le_trans (sum_nodup (txG evs) evs.length _ ?_ ?_) (txG_sum evs)
 ·refine List.pairwise_map.2 (List.Pairwise.imp_of_mem ?_ (List.nodup_range' (step:=1) (Nat.zero_lt_one)))
  intro a b ha hb hab heq
  obtain ⟨e1,h1,h2,_⟩:=hk a (hmem a ha)
  obtain ⟨e2,k1,k2,_⟩:=hk b (hmem b hb)
  rw [heq,k1] at h1
  cases h1
  rw [h2] at k2
  exact hab (by omega)
 ·intro p hp
  obtain ⟨k,h,rfl⟩:=List.mem_map.1 hp
  obtain ⟨e1,h1,_⟩:=hk k (hmem k h)
  exact (List.getElem?_eq_some_iff.1 h1).1
theorem evSmQ (e:Ev) (h:wtE e ≤ 1048576):EvSm e:=by
 unfold wtE at h
 have hA:∀ (l:List (List UInt8 × List UInt8)),l.length ≤ wtA l ∧ ∀ p ∈ l,p.1.length ≤ wtA l ∧ p.2.length ≤ wtA l:=by
  intro l
  induction l with
  | nil=>exact ⟨Nat.le_refl _,fun p hp=>by cases hp⟩
  | cons x r ih =>
   obtain ⟨h1,h2⟩:=ih
   have e:wtA (x :: r) = x.1.length + x.2.length + 1 + wtA r:=by unfold wtA;simp
   refine ⟨by simp;omega,fun p hp=>?_⟩
   rcases List.mem_cons.1 hp with rfl | hp
   ·omega
   ·have:=h2 p hp;omega
 obtain ⟨h1,h2⟩:=hA e.ats
 exact ⟨by omega,by omega,by omega,fun p hp=>by have:=h2 p hp;omega⟩
theorem evsSm {evs:List Ev} (h:wtEs evs ≤ 1048576):∀ e ∈ evs,EvSm e:=fun e he=>by
 obtain ⟨i,hi,rfl⟩:=List.getElem_of_mem he
 exact evSmQ _ (Nat.le_trans (wtEs_mem evs i hi) h)
theorem tq_of {w:World} {tb B:Nat} {evs:List Ev} (h:TreeAt w B tb evs) (hw:wholeB evs = true) (hwt:wtEs evs ≤ 1048576) (hL:(nodesB evs).length ≤ 1024):TQ w tb evs:=by
 refine ⟨⟨B,h⟩,hw,evsSm hwt,hL,fun v i h1 h2=>?_⟩
 obtain ⟨t,ht,_,_⟩:=wholeB_some hw
 refine Nat.le_trans (txtR_bulk hw ?_) hwt
 unfold hiOf
 split
 ·exact Nat.le_refl _
 ·have:=lastN_rng ht v.toNat (by omega);omega
end Go.Proofs.YtgjokdngbocehaaGreatDoor
namespace Go.Proofs.YtgjokdngbocehaaGreatDoor
open Go.RowKit
theorem wholeB_bad {evs:List Ev} {s:BegS} (k:Nat) (hk:k < evs.length) (h:begAll beg0 (evs.take k) = some s) (hb:begOk s evs[k] = false):wholeB evs = false:=by
 have h2:begAll beg0 evs = none:=by
  rw [← List.take_append_drop k evs,begAll_app,h,List.drop_eq_getElem_cons hk]
  simp only [Option.bind_some,begAll]
  rw [if_neg (by rw [hb];simp)]
 unfold wholeB
 rw [h2]
theorem wholeB_open {evs:List Ev} {s:BegS} (h:begAll beg0 evs = some s) (hb:decide (s.opn = [] ∧ s.cnt ≠ 0) = false):wholeB evs = false:=by
 have h1:=(beg_le _ _ _ h).2.2.2
 simp only [beg0] at h1
 unfold wholeB
 rw [h]
 simp only [decide_eq_false_iff_not] at hb ⊢
 rintro ⟨a,b⟩
 exact hb ⟨b,fun h0=>a (List.eq_nil_of_length_eq_zero (by omega))⟩
theorem wholeB_done {evs:List Ev} {s:BegS} (h:begAll beg0 evs = some s) (hb:decide (s.opn = [] ∧ s.cnt ≠ 0) = true):wholeB evs = true:=by
 have h1:=(beg_le _ _ _ h).2.2.2
 simp only [beg0] at h1
 unfold wholeB
 rw [h]
 simp only [decide_eq_true_eq] at hb ⊢
 exact ⟨fun h0=>by subst h0;simp at h1;exact hb.2 (by omega),hb.1⟩
set_option maxRecDepth 1000000 in
set_option maxHeartbeats 4000000 in
theorem treeBuild_any (a:Option Addr) (n c:Nat) (evs:List Ev) (w:World) (hE:EvsAt w a n evs) (hn:n ≤ 1048576) (hsm:∀ e ∈ evs,EvSm e) (hR:RangesAt w 2) (hT:Lib.Utf8Tabs 0 1 w) :
  Calls Tryz.prog 24 #[.slice a n c] w fun e w'=>((wholeB evs = true ∧ ∃ tb,e = .returned (.tuple #[.pointer (some ⟨tb,0,none⟩),.int .i64 0]) ∧ TreeAt w' w.heap.size tb evs) ∨ (wholeB evs = false ∧ e = .returned (.tuple #[.pointer none,.int .i64 6]))) ∧ Below w.heap.size w w':=by
 obtain ⟨i0,hi,hz0,hz1,hz2⟩:=info_parts infoNode
 obtain ⟨j0,hj,hjz0,hjz1,hjz2⟩:=info_parts infoInt
 have HCO:Hid (∀ W,Below w.heap.size w W → Calls Tryz.prog 42 #[.slice a n c] W fun e w'=>∃ cs,e = .returned (.slice (some ⟨W.heap.size,0,none⟩) n n) ∧ w'.ownsRow W.heap.size 47 8 (.slice (some ⟨W.heap.size,0,none⟩) n n) n cs ∧ EvRow w' (W.heap.size + 1) n evs cs ∧ Below W.heap.size W w') :=
  Lib.hid fun W hW=>copied_any a n c evs W (hE.below hW) (by omega) (fun e he=>(hsm e he).2.2.1)
 have HN:Hid (n = evs.length):=Lib.hid hE.1
 have HSM:=Lib.hid hsm
 have HRT:Hid (∀ W,Below w.heap.size w W → RangesAt W 2 ∧ Lib.Utf8Tabs 0 1 W):=Lib.hid fun W hW=>⟨hR.below hW,Utf8Tabs_below hT hW⟩
 have HN1:Hid (∀ o,Below w.heap.size w (w.alloc o) ∧ (w.alloc o).heap[w.heap.size]? = some o ∧ (w.alloc o).heap.size = w.heap.size + 1):=Lib.hid fun o=>⟨(Below.refl w.heap.size w).alloc (Nat.le_refl _) _,heap_alloc_new w _,by simp⟩
 clear hE hsm hR hT
 go_enter Tryz.func24,Tryz.ntmps24
 go_wp2_with fail
 (with_reducible refine (HCO.out _ (HN1.out _).1).mono ?_)
 rintro e wc ⟨cs,rfl,hcs,hrow,hbc⟩
 rw [(HN1.out _).2.2] at hcs hrow
 have HCS:=Lib.hid hcs
 have HROW:=Lib.hid hrow
 have hbw:=(HN1.out (.cells #[.slice none 0 0,.int .i64 0,.bool false,.bool false] 105)).1.trans (hbc.mono (HN1.out _).1.size)
 have HBW:=Lib.hid hbw
 have HCB:Hid (wc.heap[w.heap.size]? = some (.cells #[.slice none 0 0,.int .i64 0,.bool false,.bool false] 105 (0,0))):=Lib.hid ((hbc.block _ (by rw [(HN1.out _).2.2];omega)).trans (HN1.out _).2.1)
 clear hcs hrow hbc hbw
 go_wp2_with fail
 have hcbw1:w.heap.size + 1 < wc.heap.size:=(HCS.out.lt _ rfl).2
 have hcbw:w.heap.size < wc.heap.size:=by omega
 go_loopw [6,22] (fun ov iv wr=>∃ (k:Nat) (s:BegS) (vC vN:Value),iv = .int .i64 k ∧ k ≤ n ∧ Hid (begAll beg0 (evs.take k) = some s) ∧ Hid (BInv wc w.heap.size (w.heap.size + 1) n evs s s (nodesB (evs.take k)) vC vN ov wr)) (fun _ iv _=>n - (intOf iv).toNat)
 case atStart=>exact ⟨0,beg0,.slice none 0 0,.slice none 0 0,rfl,Nat.zero_le _,Lib.hid rfl,Lib.hid (BInv.start hcbw HCB.out _ rfl)⟩
 case round =>
  obtain ⟨k,s,vC,vN,rfl,hk,hbs,hbi⟩:=hrel
  by_cases hkn:k < n
  ·have hkl:k < evs.length:=by rw [← HN.out];exact hkn
   obtain ⟨e,A,m,c',he,hmc,hA,hAcb,e0,e1,e2,e3,e4,e5,e6,e7⟩:=HROW.out.at8 HCS.out HN.out k hkn (Nat.lt_succ_self _) hbi.out.block
   have hek:evs[k] = e:=by rw [List.getElem?_eq_getElem hkl] at he;exact Option.some.inj he
   by_cases hokb:begOk s e = false
   ·have HTF:Hid (∀ W,BInv wc w.heap.size (w.heap.size + 1) n evs s s (nodesB (evs.take k)) vC vN u6 W → Calls Tryz.prog 43 #[.pointer (some ⟨w.heap.size,0,none⟩),.agg #[.int .i64 e.kind,.int .i64 e.num,.int .i64 e.dep,.string (strL e.name),.slice A m c',.string (strL e.text),.int .i64 e.fr,.int .i64 e.tt]] W fun r w'=>r = .returned (.bool false) ∧ Below w.heap.size w w'):=Lib.hid fun W hW=>by
     have hb:=hW.toBelow HBW.out
     refine (take_bad _ _ vC s e A m c' W hW.chk hokb (hW.attrs hA hAcb) (HSM.out e (by rw [← hek];exact List.getElem_mem hkl)) (HRT.out W hb).1 (HRT.out W hb).2).mono ?_
     rintro r w' ⟨h1,h2⟩
     exact ⟨h1,hb.trans (h2.mono hb.size)⟩
    have HB1:Hid (∀ o,BInv wc w.heap.size (w.heap.size + 1) n evs s s (nodesB (evs.take k)) vC vN u6 (wr.alloc o)):=Lib.hid fun o=>hbi.out.below hcbw ((Below.refl _ _).alloc (Nat.le_refl _) o)
    have HWF:Hid (wholeB evs = false):=Lib.hid (wholeB_bad k hkl hbs.out (by rw [hek];exact hokb))
    clear hek hmc hA hAcb he hokb
    go_wp2_with fail
    (with_reducible refine (HTF.out _ (HB1.out _)).mono ?_)
    rintro r w2 ⟨rfl,hb2⟩
    have HB2:=Lib.hid hb2
    clear hb2
    go_wp2_with fail
    go_ret2
    exact ⟨.inr ⟨HWF.out,rfl⟩,HB2.out⟩
   have hok:begOk s e = true:=by simpa using hokb
   have hnext:begAll beg0 (evs.take (k + 1)) = some (begNext s e):=by
    rw [List.take_succ_eq_append_getElem hkl,begAll_snoc,hbs.out,hek]
    simp [hok]
   clear hokb
   have hle:=beg_le _ _ _ hbs.out
   simp only [beg0,List.length_nil,List.length_take] at hle
   have hcap:s.opn.length < 1048576 ∧ s.next < 1048576:=by omega
   have HTK:Hid (∀ W,BInv wc w.heap.size (w.heap.size + 1) n evs s s (nodesB (evs.take k)) vC vN u6 W → Calls Tryz.prog 43 #[.pointer (some ⟨w.heap.size,0,none⟩),.agg #[.int .i64 e.kind,.int .i64 e.num,.int .i64 e.dep,.string (strL e.name),.slice A m c',.string (strL e.text),.int .i64 e.fr,.int .i64 e.tt]] W fun r w'=>∃ v',r = .returned (.bool true) ∧ BInv wc w.heap.size (w.heap.size + 1) n evs (begNext s e) s (nodesB (evs.take k)) v' vN u6 w' ∧ Moved w.heap.size vC v' W w'):=Lib.hid fun W hW=>by
    have hb:=hW.toBelow HBW.out
    refine (take_ok _ _ vC s e A m c' W hW.chk hok (hW.attrs hA hAcb) (HSM.out e (by rw [← hek];exact List.getElem_mem hkl)) hcap (HRT.out W hb).1 (HRT.out W hb).2).mono ?_
    rintro r w' ⟨v',h1,h2,h3⟩
    exact ⟨v',h1,hW.take hcbw h3 h2,h3⟩
   have HB1:Hid (∀ o,BInv wc w.heap.size (w.heap.size + 1) n evs s s (nodesB (evs.take k)) vC vN u6 (wr.alloc o) ∧ (wr.alloc o).heap[wr.heap.size]? = some o ∧ (wr.alloc o).heap.size = wr.heap.size + 1):=Lib.hid fun o=>⟨hbi.out.below hcbw ((Below.refl _ _).alloc (Nat.le_refl _) o),heap_alloc_new wr o,by simp⟩
   obtain ⟨a1,a2,a3,a4,a5,a6,a7⟩:=hbi.out.ne hcbw
   have HBL:Hid (vC.ownBlock ≠ some wr.heap.size ∧ w.heap.size ≠ wr.heap.size ∧ vN.ownBlock ≠ some wr.heap.size ∧ wc.heap.size ≠ wr.heap.size):=Lib.hid ⟨fun e=>by have:=(a1 _ e).2;omega,by omega,fun e=>by have:=(a2 _ e).2;omega,by omega⟩
   have HK:=Lib.hid (⟨hek,hok,hnext,hle,hcap,hmc,hA,hAcb⟩:_ ∧ _ ∧ _ ∧ _ ∧ _ ∧ _ ∧ _ ∧ _)
   clear a1 a2 a3 a4 a5 a6 a7 hek hok hnext hle hcap hmc hA hAcb he
   go_wp2_with fail
   (with_reducible refine (HTK.out _ (HB1.out _).1).mono ?_)
   rintro r w2 ⟨vC',rfl,hbi2,hmv⟩
   have HEB:=Lib.hid ((hmv.block wr.heap.size (by rw [(HB1.out _).2.2];omega) (Ne.symm HBL.out.2.1) HBL.out.1).trans (HB1.out _).2.1)
   have HBI2:=Lib.hid hbi2
   clear hmv hbi2 e0 e1 e2 e3 e4 e5 e6 e7
   by_cases h2:e.kind = 2
   ·have e0:w2.cell? ⟨wr.heap.size,0,none⟩ = some (.int .i64 2):=by rw [cell_heap HEB.out,← h2];rfl
    go_wp2_with fail
    obtain ⟨b1,b2,b3,b4,b5,b6,b7⟩:=HBI2.out.ne hcbw
    obtain ⟨ncs,hncs,hndr⟩:=HBI2.out.nds'
    have hinv:=nodesB_inv hbs.out
    have hhd:=begOk_close HK.out.2.1 h2
    obtain ⟨rest,hr⟩:∃ rest,s.opn = (e.num,e.dep,e.name) :: rest:=by
     cases ho:s.opn with
     | nil=>rw [ho] at hhd;cases hhd
     | cons a r=>rw [ho] at hhd;simp at hhd;exact ⟨r,by rw [hhd]⟩
    have hnum:=hinv.opn _ (by rw [hr];exact List.mem_cons_self)
    simp only at hnum
    rw [hinv.nxt] at hnum
    have hnlen:(nodesB (evs.take k)).length ≤ 1048576:=by
     have h1:=hinv.nxt
     have h2:=HK.out.2.2.2.2.1.2
     omega
    obtain ⟨j,hj'⟩:∃ j:Nat,e.num = (j:Int):=⟨e.num.toNat,by omega⟩
    have hjn:j < (nodesB (evs.take k)).length:=by omega
    obtain ⟨oa,na,rfl,hna,hoa0,hoas⟩:=own_slice hncs
    obtain ⟨gn,rfl⟩:∃ gn,oa = some ⟨gn,0,none⟩:=by
     cases oa with
     | none=>have:=hoa0 rfl;omega
     | some ad=>obtain ⟨g,rfl,_⟩:=hoas ad rfl;exact ⟨g,rfl⟩
    obtain ⟨go,oc,rfl,hoc,_,hgow,_,hgoc⟩:=own_some HBI2.out.opn
    have HNC:=Lib.hid (⟨hncs,hndr,hr,hj',hinv⟩:_ ∧ _ ∧ _ ∧ _ ∧ _)
    have HJN:=Lib.hid hjn
    have HB2:=Lib.hid (⟨b2,b3⟩:_ ∧ _)
    have hop:=HK.out.2.2.2.2.1.1
    obtain ⟨x9,y9⟩:=own_cell hncs (j * 12 + 9) (by omega)
    obtain ⟨x11,y11⟩:=own_cell hncs (j * 12 + 11) (by omega)
    have fz:=fun q=>hncs.frozenAt q
    have t1:w2.cell? ⟨wc.heap.size,1,none⟩ = some (.slice (some ⟨gn,0,none⟩) (nodesB (evs.take k)).length na):=by rw [cell_heap HBI2.out.tree];rfl
    have e1:w2.cell? ⟨wr.heap.size,1,none⟩ = some (.int .i64 (j:Int)):=by rw [cell_heap HEB.out,← hj'];rfl
    generalize hnn:(nodesB (evs.take k)).length = nn at *
    have HNN:=Lib.hid hnn
    generalize hon:s.opn.length = on at *
    have HON:=Lib.hid hon
    have ew:IntKind.i64.wrap ((on:Int) + 1 - 1) = (on:Int):=by rw [IntWalk.i64_in _ (by omega)];omega
    have ew2:IntKind.i64.wrap ((nn:Int) - 1) = (nn:Int) - 1:=IntWalk.i64_in _ (by omega)
    have i1:(0:Int) ≤ (j:Int):=by omega
    have i2:(j:Int) < (nn:Int):=by omega
    clear hncs hndr b1 b2 b3 b4 b5 b6 b7 hinv hhd hr hnum hna hoa0 hoas hgoc hgow hj' hnn hon
    go_region
    go_wp2_with fail
    obtain ⟨hncs,hndr,hr,hj',hinv⟩:=HNC.out
    have hs':(begNext s e).opn = rest:=by unfold begNext;simp [h2,hr]
    have hon:on = rest.length + 1:=by rw [← HON.out,hr];rfl
    have hsc:s.cnt = k:=by have:=HK.out.2.2.2.1.2.2.2;omega
    have hnb:nodesB (evs.take (k + 1)) = (nodesB (evs.take k)).modify j (fun x=>⟨x.pos,x.par,(nn:Int) - 1,k + 1⟩):=by
     rw [List.take_succ_eq_append_getElem hkl,HK.out.1]
     unfold nodesB
     rw [ndAll_snoc _ _ _ _ hbs.out]
     unfold ndNext
     rw [if_pos h2,hsc,hj',Int.toNat_natCast]
     have h9:(ndAll beg0 [] (evs.take k)).length = nn:=HNN.out
     rw [h9]
    have hmv:Moved wc.heap.size (.slice (some ⟨gn,0,none⟩) nn na) (.slice (some ⟨gn,0,none⟩) nn na) w2 ((w2.setCell ⟨gn,j * 12 + 9,none⟩ (.int .i64 ((nn:Int) - 1))).setCell ⟨gn,j * 12 + 11,none⟩ (.int .i64 ((k + 1:Nat):Int))):=((Moved.of (Below.refl _ w2)).setOwn rfl _ _).setOwn rfl _ _
    have hgt:wc.heap.size ≠ gn:=fun e=>by have:=(HB2.out.1 gn rfl).1;omega
    have hbi3:=HBI2.out.node (nds':=nodesB (evs.take (k + 1))) hcbw hmv ((Below.heap_setCell _ _ _ _ hgt).trans ((Below.heap_setCell _ _ _ _ hgt).trans HBI2.out.tree)) ⟨_,by rw [hnb,List.length_modify,HNN.out];exact ((hncs.stored _ _).1.stored _ _).1,by rw [hnb];exact hndr.close (by rw [hncs.1,HNN.out]) j (by rw [HNN.out];exact HJN.out) _ _⟩
    have hpop:=hbi3.opn
    rw [hr,opC_cons,List.length_cons] at hpop
    have hbi4:=hbi3.open' (s':=begNext s e) (vO':=.slice (some ⟨go,0,none⟩) on oc) hcbw (Moved.mk rfl rfl rfl (Nat.le_refl _) (fun _ _ _ _=>rfl) (.inl rfl)) (by
     rw [hs',hon]
     have h3:on + 1 = rest.length + 1 + 1:=by omega
     rw [h3] at hpop
     exact own_pop hpop (by rw [opC_length];omega))
    have hbi5:=hbi4.below hcbw ((Below.refl _ _).drew)
    have HNX:=Lib.hid (HK.out.2.2.1)
    have X:=Lib.hid hbi5
    clear hbi3 hbi4 hbi5 hpop hmv hnb hncs hndr hr hj' hinv hs'
    go_roundw
    case rel=>exact ⟨k + 1,begNext s e,vC',_,by go_num,by omega,HNX,X⟩
    case measure=>simp [intOf];omega
   ·have hb2:(e.kind == 2) = false:=by simpa using h2
    have e0:w2.cell? ⟨wr.heap.size,0,none⟩ = some (.int .i64 e.kind):=by rw [cell_heap HEB.out];rfl
    go_wp2_with fail
    obtain ⟨b1,b2,b3,b4,b5,b6,b7⟩:=HBI2.out.ne hcbw
    obtain ⟨ncs,hncs,hndr⟩:=HBI2.out.nds'
    obtain ⟨oa,na,rfl,_,_,_⟩:=own_slice hncs
    obtain ⟨go,oc,rfl,_,_,hgow,_,hgoc⟩:=own_some HBI2.out.opn
    have hnlen:(nodesB (evs.take k)).length ≤ 1048576:=by
     have h1:=(nodesB_inv hbs.out).nxt
     have h2:=HK.out.2.2.2.2.1.2
     omega
    have hszw:wr.heap.size < w2.heap.size:=heap_lt HEB.out
    have hop:=HK.out.2.2.2.2.1.1
    refine tree13_any (wc.heap.size + 2) wc.heap.size wr.heap.size go s.opn.length _ oc k _ ((s.opn.head?.map (·.1)).getD (-1)) e A m c' oa na _ ncs _ _ _ _ _ _ _ _ _ _ _ _ _ _ _ _ _ _ _ _ _ _ _ _ _ _ _ _ _ _ _ _ _ _ _ _ _ _ _ _ _ _ _ _ _ _ _ _ _ _ _ _ _ _ _ _ _ _ _ _ _ _ _ _ _ _ _ _ _ _ _ _ _ _ _ _ _ _ _ _ _ _ _ _ _ _ _ _ _ _ _ _ HBI2.out.tree HEB.out hncs HBI2.out.size (by omega) hgow (hgoc _ _ (opC_top _)) (fun e=>by have:=(b2 _ e).1;omega) HBL.out.2.2.1 (fun e=>b5 go e rfl) HBL.out.2.2.2 (fun e=>by have:=(b3 go rfl).1;omega) (by omega) (by omega) hnlen rfl _ (Lib.hid fun y60 y61 y62 y63 y64 y65 y66 y67 y68 y69 y70 y71 y72 y73 y74 y75 y76 y77 y78 y79 y80 y81 oa6 na6 w6 hown hmv htree=>?_)
    have hsc:s.cnt = k:=by have:=HK.out.2.2.2.1.2.2.2;omega
    have hbi3:BInv wc w.heap.size (w.heap.size + 1) n evs (begNext s e) s (nodesB (evs.take (k + 1))) vC' (.slice oa6 ((nodesB (evs.take k)).length + 1) na6) (.slice (some ⟨go,0,none⟩) (s.opn.length + 1) oc) w6:=by
     have hnb:nodesB (evs.take (k + 1)) = nodesB (evs.take k) ++ [⟨k,(s.opn.head?.map (·.1)).getD (-1),e.num,k + 1⟩]:=by
      rw [List.take_succ_eq_append_getElem hkl,HK.out.1]
      unfold nodesB
      rw [ndAll_snoc _ _ _ _ hbs.out]
      unfold ndNext
      rw [if_neg h2,hsc]
     rw [hnb]
     refine HBI2.out.node hcbw hmv htree ⟨_,by rw [List.length_append];exact hown,hndr.push (by have:=hncs.1;omega) _ e A m c' ?_ HK.out.2.2.2.2.2.1 HK.out.2.2.2.2.2.2.1 HK.out.2.2.2.2.2.2.2⟩
     rw [List.getElem?_eq_getElem hkl,HK.out.1]
    have HEB6:=Lib.hid ((hmv.block wr.heap.size hszw (Ne.symm HBL.out.2.2.2) HBL.out.2.2.1).trans HEB.out)
    have HBI3:=Lib.hid hbi3
    have HNX:=Lib.hid (HK.out.2.2.1)
    have hk01:=(begOk_new HK.out.2.1 h2).2
    clear hbi3 htree hmv hown hnlen b1 b2 b3 b4 b5 b6 b7 hndr hncs hgow hgoc hszw hop hsc e0 hb2
    by_cases h0:e.kind = 0
    ·have e0:w6.cell? ⟨wr.heap.size,0,none⟩ = some (.int .i64 0):=by rw [cell_heap HEB6.out,← h0];rfl
     have e1:w6.cell? ⟨wr.heap.size,1,none⟩ = some (.int .i64 e.num):=by rw [cell_heap HEB6.out];rfl
     have HB6:Hid (∀ o,BInv wc w.heap.size (w.heap.size + 1) n evs (begNext s e) s (nodesB (evs.take (k + 1))) vC' (.slice oa6 ((nodesB (evs.take k)).length + 1) na6) (.slice (some ⟨go,0,none⟩) (s.opn.length + 1) oc) (w6.alloc o) ∧ wc.heap.size + 2 ≤ w6.heap.size):=Lib.hid fun o=>⟨HBI3.out.below hcbw ((Below.refl _ _).alloc (Nat.le_refl _) o),HBI3.out.size⟩
     have hoplen:s.opn.length + 1 + 1 ≤ 4294967296:=by have:=HK.out.2.2.2.2.1.1;omega
     go_wp2_with (at_builtin;go_must ((refine wpList_app w6 (by rfl) _ _ 66 (by rfl) (wc.heap.size + 1) 3 j0 (.int .i64 0) 1 8 Tryz.underlying66 hj hjz0 hjz1 hjz2 (by rfl) (by decide) (.slice (some ⟨go,0,none⟩) (s.opn.length + 1) oc) (s.opn.length + 1) (opC s.opn) (by rfl) HBI3.out.opn w6.heap.size rfl 1 [.int .i64 e.num] (by rfl) (by rfl) (by intro u hu;simp only [List.mem_cons,List.not_mem_nil,or_false] at hu;subst hu;rfl) hoplen (by decide) (by have:=(HB6.out (.cells #[] 3)).2;omega) (fun vO' w7 hown7 hap7=>?_))))
     have hs':(begNext s e).opn = (e.num,e.dep,e.name) :: s.opn:=by unfold begNext;simp [h0]
     have hbi7:BInv wc w.heap.size (w.heap.size + 1) n evs (begNext s e) (begNext s e) (nodesB (evs.take (k + 1))) vC' (.slice oa6 ((nodesB (evs.take k)).length + 1) na6) vO' w7:=by
      refine (HB6.out _).1.open' hcbw (Moved.app hap7) ?_
      rw [hs',opC_cons,List.length_cons]
      exact hown7
     have X:=Lib.hid hbi7
     clear hbi7 hown7 hap7 hs'
     go_wp2_with fail
     go_roundw
     case rel=>exact ⟨k + 1,begNext s e,vC',_,by go_num,by omega,HNX,X⟩
     case measure=>simp [intOf];omega
    ·have h1:e.kind = 1:=by omega
     have e0:w6.cell? ⟨wr.heap.size,0,none⟩ = some (.int .i64 1):=by rw [cell_heap HEB6.out,← h1];rfl
     have hs':(begNext s e).opn = s.opn:=by unfold begNext;simp [h1]
     have X:=Lib.hid (HBI3.out.same hs')
     clear hs'
     go_wp2_with fail
     go_roundw
     case rel=>exact ⟨k + 1,begNext s e,vC',_,by go_num,by omega,HNX,X⟩
     case measure=>simp [intOf];omega
  ·have hk2:k = n:=by omega
   subst hk2
   have htk:evs.take k = evs:=List.take_of_length_le (by rw [HN.out];exact Nat.le_refl _)
   have hb:=hbs.out
   have hi2:=hbi.out
   rw [htk] at hb hi2
   cases hdn:decide (s.opn = [] ∧ s.cnt ≠ 0) with
   | false =>
    have c3:wr.cell? ⟨w.heap.size,3,none⟩ = some (.bool false):=by
     rw [cell_heap hi2.chk.at',hdn];rfl
    have HD:=Lib.hid (done_any w.heap.size false wr c3)
    have HWF:Hid (wholeB evs = false):=Lib.hid (wholeB_open hb hdn)
    have HB2:=Lib.hid (hi2.toBelow HBW.out)
    clear hi2 hb hdn c3
    go_wp2_with fail
    (with_reducible refine HD.out.mono ?_)
    rintro r w9 ⟨rfl,rfl⟩
    go_wp2_with fail
    go_ret2
    exact ⟨.inr ⟨HWF.out,rfl⟩,HB2.out⟩
   | true =>
   have c3:wr.cell? ⟨w.heap.size,3,none⟩ = some (.bool true):=by
    rw [cell_heap hi2.chk.at',hdn];rfl
   have HWT:Hid (wholeB evs = true):=Lib.hid (wholeB_done hb hdn)
   have HD:=Lib.hid (done_any w.heap.size true wr c3)
   have HI2:=Lib.hid hi2
   clear hi2 hb hdn c3
   go_wp2_with fail
   (with_reducible refine HD.out.mono ?_)
   rintro r w9 ⟨rfl,rfl⟩
   go_wp2_with fail
   go_ret2
   have hi2:=HI2.out
   obtain ⟨ncs,hncs,hndr⟩:=hi2.nds'
   obtain ⟨b1,b2,b3,b4,b5,b6,b7⟩:=hi2.ne hcbw
   obtain ⟨oa,na,rfl,hna,hoa0,hoas⟩:=own_slice hncs
   refine ⟨.inl ⟨HWT.out,wc.heap.size,rfl,⟨b7,by omega,w.heap.size + 1,k,oa,na,hi2.tree,HN.out,hna,by omega,by omega,fun i hi=>?_,fun i x hx=>?_⟩⟩,hi2.toBelow HBW.out⟩
   ·obtain ⟨e,A,m,c',he,hmc,hA,hAcb,g0,g1,g2,g3,g4,g5,g6,g7⟩:=HROW.out.at8 HCS.out HN.out i (by have:=HN.out;omega) (Nat.lt_succ_self _) hi2.block
    have hee:evs[i] = e:=by rw [List.getElem?_eq_getElem hi] at he;exact Option.some.inj he
    rw [hee]
    refine ⟨A,m,c',hmc,hi2.attrs hA hAcb,fun ad h=>Nat.le_of_lt (hAcb ad h),fun j hj=>?_⟩
    match j,hj with
    | 0,_=>exact g0
    | 1,_=>exact g1
    | 2,_=>exact g2
    | 3,_=>exact g3
    | 4,_=>exact g4
    | 5,_=>exact g5
    | 6,_=>exact g6
    | 7,_=>exact g7
   ·obtain ⟨e,A,m,c',h1,h2,h3,h4,h5⟩:=hndr i x hx
    have hil:=get_lt hx
    cases oa with
    | none=>have:=hoa0 rfl;omega
    | some ad =>
     obtain ⟨g,rfl,hg1,hg2,_,hgc⟩:=hoas _ rfl
     refine ⟨g,e,A,m,c',rfl,by omega,hg2,h1,h2,hi2.attrs h3 h4,fun ad h=>Nat.le_of_lt (h4 ad h),fun j hj=>?_⟩
     rw [← h5 j hj]
     exact hncs.cellAt _ (by omega)
end Go.Proofs.YtgjokdngbocehaaGreatDoor
namespace Go.Proofs.YtgjokdngbocehaaGreatDoor
open Go.RowKit
theorem selectN_rng {evs:List Ev} {f:Nat} {ss:List PS} (hc:checkN f ss = 0) (hpos:0 < (nodesB evs).length) {hs:List HN} {rs:List RN} (h:Full evs hs rs):∀ n ∈ selectN (treePT evs) f ss,0 ≤ n ∧ n + 1 < (hs.length:Int):=fun n hn=>by
 have:=vdT_rng (pathT (exprT hs f) hs ss ss.length) hs.length (n,2) (by rw [verd_whole h hc hpos];exact List.mem_map.2 ⟨n,hn,rfl⟩)
 exact this
set_option maxRecDepth 1000000 in
set_option maxHeartbeats 16000000 in
theorem halfWhole_of {f:Nat} (hf:f ≤ 1048576) (a:Option Addr) (n c:Nat) (evs:List Ev) (pa:Option Addr) (pc:Nat) (ss:List PS) (w:World) (hE:EnvT w) (hev:EvsAt w a n evs) (hw:wtEs evs ≤ 1048576) (hx:SsAt f w pa ss) (hpl:ss.length ≤ 1048576) (hnc:n ≤ c) :
  Calls Tryz.prog 7 #[.slice a n c,.agg #[.slice pa ss.length pc]] w fun e w'=>e = .returned (.bool true) ∧ Below w.heap.size w w':=by
 have hn:n ≤ 1048576:=by have:=wtEs_length evs;have:=hev.1;omega
 obtain ⟨W0,hW0⟩:∃ W0,W0 = w.alloc (.cells #[.slice pa ss.length pc] 25):=⟨_,rfl⟩
 have hb0:Below w.heap.size w W0:=by rw [hW0];exact (Below.refl w.heap.size w).alloc (Nat.le_refl _) _
 have hsz0:W0.heap.size = w.heap.size + 1:=by rw [hW0];simp
 have hk4:W0.heap[w.heap.size]? = some (.cells #[.slice pa ss.length pc] 25 (0,0)):=by rw [hW0];exact heap_alloc_new w _
 have HKS:Hid (∀ W,Below W0.heap.size W0 W → W.cell? ⟨w.heap.size,0,none⟩ = some (.slice pa ss.length pc)):=Lib.hid fun W hW=>by rw [cell_heap ((hW.block w.heap.size (by omega)).trans hk4)];rfl
 have FIN:Hid (∀ W,Below W0.heap.size W0 W → Below w.heap.size w W):=Lib.hid fun W hW=>hb0.trans (hW.mono hb0.size)
 have HAW:Hid (∀ W,Below W0.heap.size W0 W → Calls Tryz.prog 8 #[] W fun e w'=>e = .returned (.bool true) ∧ Below W.heap.size W w'):=Lib.hid fun W hW=>awake15_any W (hE.below (FIN.out W hW))
 have HBQ:Hid (∀ W,Below W0.heap.size W0 W → BegQ W a n evs):=Lib.hid fun W hW=>⟨hev.below (FIN.out W hW),hn,evsSmH hw,hw,(hE.below (FIN.out W hW)).rng,(hE.below (FIN.out W hW)).tab⟩
 have HGR:Hid (Calls Tryz.prog 20 #[.agg #[.slice pa ss.length pc]] W0 fun e w'=>∃ g,e = .returned (.bool g) ∧ Below W0.heap.size W0 w'):=Lib.hid (great_any pa pc ss W0 (SsAt.below hx hb0) hpl)
 have HWH:Hid (∀ W,Below W0.heap.size W0 W → Calls Tryz.prog 21 #[.slice a n c,.agg #[.slice pa ss.length pc]] W fun e w'=>∃ b,e = .returned (.bool b) ∧ (b = true → wholeB evs = true ∧ n ≤ 120 ∧ checkN f ss = 0) ∧ Below W.heap.size W w'):=Lib.hid fun W hW=>whole15_any hf a n c evs pa pc ss W (HBQ.out W hW) (SsAt.below hx (FIN.out W hW)) hpl
 have HBD:Hid (∀ W,Below W0.heap.size W0 W → Calls Tryz.prog 24 #[.slice a n c] W fun e w'=>((wholeB evs = true ∧ ∃ tb,e = .returned (.tuple #[.pointer (some ⟨tb,0,none⟩),.int .i64 0]) ∧ TreeAt w' W.heap.size tb evs) ∨ (wholeB evs = false ∧ e = .returned (.tuple #[.pointer none,.int .i64 6]))) ∧ Below W.heap.size W w'):=Lib.hid fun W hW =>
  treeBuild_any a n c evs W (hev.below (FIN.out W hW)) hn (evsSmH hw) (hE.below (FIN.out W hW)).rng (hE.below (FIN.out W hW)).tab
 have HENV:Hid (∀ W,Below W0.heap.size W0 W → EnvT W):=Lib.hid fun W hW=>hE.below (FIN.out W hW)
 have HSS:Hid (∀ W,Below W0.heap.size W0 W → SsAt f W pa ss):=Lib.hid fun W hW=>SsAt.below hx (FIN.out W hW)
 have HVF:Hid (∀ W,Below W0.heap.size W0 W → Calls Tryz.prog 10 #[.slice a n c,.agg #[.slice pa ss.length pc]] W fun e w'=>∃ A cc,e = .returned (.tuple #[.slice A (verdN f evs ss).1.length cc,.int .i64 (verdN f evs ss).2]) ∧ (verdN f evs ss).1.length ≤ cc ∧ VdAt w' A (verdN f evs ss).1.length (verdN f evs ss).1 ∧ Below W.heap.size W w'):=Lib.hid fun W hW=>verdH_any hf a n c evs pa pc ss W (HBQ.out W hW) (SsAt.below hx (FIN.out W hW)) hpl
 have HTF:Hid (∀ W,Below W0.heap.size W0 W → Calls Tryz.prog 18 #[.slice a n c,.agg #[.slice pa ss.length pc]] W fun e w'=>∃ A cc,e = .returned (.tuple #[.slice A (toldN f evs ss).1.length cc,.int .i64 (toldN f evs ss).2]) ∧ (toldN f evs ss).1.length ≤ cc ∧ ItAt w' A (toldN f evs ss).1.length (toldN f evs ss).1 ∧ Below W.heap.size W w'):=Lib.hid fun W hW=>toldH_any hf a n c evs pa pc ss W (HBQ.out W hW) (SsAt.below hx (FIN.out W hW)) hpl hnc
 have HPL:Hid (wholeB evs = true → n ≤ 120 → checkN f ss = 0 → ∃ S:List Int,selectN (treePT evs) f ss = S ∧ refusesN (nodesB evs).length f (-1) ss = 0 ∧ verdN f evs ss = (S.map fun n=>(n,(2:Int)),0) ∧ (toldN f evs ss).2 = 0 ∧ (toldN f evs ss).1.length = S.length ∧ S.length ≤ 130 ∧ (nodesB evs).length ≤ 1024 ∧ ∀ i,(hi:i < S.length) → ∃ (k:Nat) (x:Nd),S[i] = (k:Int) ∧ (nodesB evs)[k]? = some x ∧ x.pos < x.fin ∧ x.fin ≤ evs.length ∧ (toldN f evs ss).1[i]? = some ((k:Int),((evs.take x.fin).drop x.pos).flatMap evOut)):=Lib.hid fun hwh h120 hc=>by
  obtain ⟨st,hst,hne,ho⟩:=wholeB_some hwh
  have hfu:=full_of hst hne ho
  have hpos:=wholeB_pos hwh
  have hv:=verd_whole hfu (f:=f) (ss:=ss) hc hpos
  have hrg:=selectN_rng hc hpos hfu
  have hvn:verdN f evs ss = ((selectN (treePT evs) f ss).map fun n=>(n,(2:Int)),0):=by
   unfold verdN;rw [hst];simp only;rw [if_neg (by rw [hc];decide),hv]
  have htn:toldN f evs ss = ((selectN (treePT evs) f ss).map fun n=>itemV evs (readN evs st) (n,2),0):=by
   unfold toldN;rw [hvn,hst];simp only;rw [if_neg (by decide),told_whole hfu _ hrg]
  have hle:(readN evs st).length ≤ n + 1:=by
   have h1:=(beg_hok hst).len
   have h2:(readN evs st).length = (hAll evs.length evs evs.length).1.length:=List.length_modify _ _ _
   have h3:=hev.1
   omega
  have hvl:=vdT_le (pathT (exprT (readN evs st) f) (readN evs st) ss ss.length) (readN evs st).length
  rw [hv,List.length_map] at hvl
  have hfl:=hfu.len
  refine ⟨_,rfl,by unfold refusesN;rw [if_neg (by omega)];exact hc,hvn,by rw [htn],by rw [htn,List.length_map],by omega,by omega,fun i hi=>?_⟩
  obtain ⟨h1,h2⟩:=hrg _ (List.getElem_mem hi)
  obtain ⟨k,hk⟩:∃ k:Nat,(selectN (treePT evs) f ss)[i] = (k:Int):=⟨_,(Int.toNat_of_nonneg h1).symm⟩
  rw [hk] at h2
  have hkl:k < (nodesB evs).length:=by omega
  have hx:(nodesB evs)[k]? = some (nodesB evs)[k]:=List.getElem?_eq_getElem hkl
  have hr:=(nodesB_inv hst).rng k _ hx
  refine ⟨k,_,hk,hx,hr.1,hr.2,?_⟩
  rw [htn]
  simp only
  rw [List.getElem?_map,List.getElem?_eq_getElem hi,Option.map_some,hk,item_whole hst ho k _ hx]
 have HWT:=Lib.hid hw
 have HF:=Lib.hid hf
 have HPLL:=Lib.hid hpl
 have HW0E:=Lib.hid hW0
 clear hW0 hb0 hsz0 hk4 hE hev hw hx hpl hnc
 obtain ⟨m,hm⟩:∃ m,ss.length = m:=⟨_,rfl⟩
 have HM:=Lib.hid hm
 rw [hm] at HKS HGR HWH HVF HTF HW0E
 rw [hm]
 clear hm
 have p0:=HKS.out W0 (Below.refl _ _)
 go_enter Tryz.func7,Tryz.ntmps7
 go_wp2_with fail
 rw [← HW0E.out]
 (with_reducible refine HGR.out.mono ?_)
 rintro e w1 ⟨g,rfl,hb1⟩
 have HB1:=Lib.hid hb1
 clear hb1 p0
 have p0:=HKS.out w1 HB1.out
 have HA1:=Lib.hid (HAW.out w1 HB1.out)
 cases g with
 | true =>
  go_wp2_with fail
  (with_reducible refine HA1.out.mono ?_)
  rintro e w2 ⟨rfl,hb⟩
  have HB2:=Lib.hid (HB1.out.trans (hb.mono HB1.out.size))
  clear hb
  go_wp2_with fail
  go_ret
  exact ⟨rfl,FIN.out _ HB2.out⟩
 | false =>
 go_wp2_with fail
 (with_reducible refine HA1.out.mono ?_)
 rintro e w2 ⟨rfl,hb⟩
 have HB2:=Lib.hid (HB1.out.trans (hb.mono HB1.out.size))
 clear hb p0
 have p0:=HKS.out w2 HB2.out
 have HW2:=Lib.hid (HWH.out w2 HB2.out)
 go_wp2_with fail
 (with_reducible refine HW2.out.mono ?_)
 rintro e w3 ⟨b,rfl,hwb,hb⟩
 have HB3:=Lib.hid (HB2.out.trans (hb.mono HB2.out.size))
 have HWB:=Lib.hid hwb
 clear hb p0 hwb
 cases b with
 | false =>
  go_wp2_with fail
  go_ret
  exact ⟨rfl,FIN.out _ HB3.out⟩
 | true =>
 obtain ⟨hwh,h120,hc0⟩:=HWB.out rfl
 obtain ⟨S,hS,hrf,hvn,ht0,htl,hSl,hnl,hat⟩:=HPL.out hwh h120 hc0
 have HSE:=Lib.hid hS
 have HRF:=Lib.hid hrf
 have HVN:=Lib.hid hvn
 have HT0:=Lib.hid ht0
 have HTL:=Lib.hid htl
 have HNL:=Lib.hid hnl
 have HAT:=Lib.hid hat
 have HWW:=Lib.hid hwh
 clear hS hrf hvn ht0 htl hnl hat hwh h120 hc0 HWB HPL
 have HBX:=Lib.hid (HBD.out w3 HB3.out)
 go_wp2_with fail
 (with_reducible refine HBX.out.mono ?_)
 rintro e w4 ⟨he,hb⟩
 have HB4:=Lib.hid (HB3.out.trans (hb.mono HB3.out.size))
 clear hb
 rcases he with ⟨_,tb,rfl,htr⟩ | ⟨hno,_⟩
 rotate_left
 ·exact absurd (hno.symm.trans HWW.out) (by decide)
 have HTR:=Lib.hid htr
 have HTQ:Hid (∀ W,Below w4.heap.size w4 W → TQ W tb evs):=Lib.hid fun W hW=>tq_of (HTR.out.below hW) HWW.out HWT.out HNL.out
 have p0:=HKS.out w4 HB4.out
 have HSEL:Hid (Calls Tryz.prog 25 #[.pointer (some ⟨tb,0,none⟩),.agg #[.slice pa m pc]] w4 fun e w'=>∃ A cc,e = .returned (.tuple #[.slice A S.length cc,.int .i64 0]) ∧ IntsAt w' A S.length S ∧ Below w4.heap.size w4 w'):=Lib.hid (by
  have h:=select_any HF.out (steps_all f tb evs) pa pc ss w4 (HTQ.out w4 (Below.refl _ _)) (HENV.out w4 HB4.out) (HSS.out w4 HB4.out) HPLL.out
  rw [HSE.out,HRF.out,HM.out] at h
  exact h)
 have HTP:Hid (∀ W (k:Nat) (x:Nd),Below w4.heap.size w4 W → (nodesB evs)[k]? = some x → x.pos < x.fin → x.fin ≤ evs.length → Calls Tryz.prog 26 #[.pointer (some ⟨tb,0,none⟩),.int .i64 (k:Nat)] W fun e w'=>e = .returned (.tuple #[.string (strL (((evs.take x.fin).drop x.pos).flatMap evOut)),.int .i64 0]) ∧ Below W.heap.size W w'):=Lib.hid fun W k x hW h1 h2 h3=>tprint_ok tb k x evs W (HTR.out.below hW) h1 HWT.out h2 h3
 clear htr
 go_wp2_with fail
 (with_reducible refine HSEL.out.mono ?_)
 rintro e w5 ⟨A,cc,rfl,hia,hb⟩
 have HB5:=Lib.hid (HB4.out.trans (hb.mono HB4.out.size))
 have HB45:=Lib.hid hb
 have HIA:=Lib.hid hia
 clear hb hia p0
 have p0:=HKS.out w5 HB5.out
 have HV5:=Lib.hid (HVF.out w5 HB5.out)
 rw [HVN.out] at HV5
 simp only [List.length_map] at HV5
 go_wp2_with fail
 (with_reducible refine HV5.out.mono ?_)
 rintro e w6 ⟨B,cb,rfl,_,hvd,hb⟩
 have HB6:=Lib.hid (HB5.out.trans (hb.mono HB5.out.size))
 have HB56:=Lib.hid hb
 have HVD:=Lib.hid hvd
 clear hb hvd p0
 have p0:=HKS.out w6 HB6.out
 have HT6:=Lib.hid (HTF.out w6 HB6.out)
 rw [HT0.out,HTL.out] at HT6
 go_wp2_with fail
 (with_reducible refine HT6.out.mono ?_)
 rintro e w7 ⟨C,cd,rfl,_,hit,hb⟩
 have HB7:=Lib.hid (HB6.out.trans (hb.mono HB6.out.size))
 have HB67:=Lib.hid hb
 have HIT:=Lib.hid hit
 clear hb hit p0
 have HB47:=Lib.hid (HB45.out.trans ((HB56.out.trans (HB67.out.mono HB56.out.size)).mono HB45.out.size))
 have HB57:=Lib.hid (HB56.out.trans (HB67.out.mono HB56.out.size))
 obtain ⟨lm,hlm⟩:∃ lm,S.length = lm:=⟨_,rfl⟩
 have HLM:=Lib.hid hlm
 rw [hlm] at HIA HVD HIT hSl
 rw [hlm]
 clear hlm
 go_wp2_with fail
 go_loopw [12] (fun iv wr=>∃ k:Nat,iv = .int .i64 k ∧ k ≤ lm ∧ Below w7.heap.size w7 wr) (fun iv _=>lm - (intOf iv).toNat)
 case atStart=>exact ⟨0,rfl,Nat.zero_le _,Below.refl _ _⟩
 case round =>
  obtain ⟨k,rfl,hk,HM0⟩:=hrel
  have HMM:=Lib.hid HM0
  clear HM0
  by_cases hkn:k < lm
  ·have hil:k < S.length:=by rw [HLM.out];exact hkn
   obtain ⟨nk,x,hsk,hx,hx1,hx2,htk⟩:=HAT.out k hil
   obtain ⟨ba,oa,rfl,_,z0⟩:=(HIA.out.below (HB57.out.trans (HMM.out.mono HB57.out.size))).at' k hil
   rw [hsk] at z0
   obtain ⟨bb,ob,rfl,_,x0,x1⟩:=(HVD.out.below (HB67.out.trans (HMM.out.mono HB67.out.size))).2 k (by rw [List.length_map];exact hil)
   have hsk2:(S.map fun n=>(n,(2:Int)))[k]'(by rw [List.length_map];exact hil) = ((nk:Int),2):=by rw [List.getElem_map,hsk]
   rw [hsk2] at x0 x1
   have htl:k < (toldN f evs ss).1.length:=by rw [HTL.out];exact hil
   obtain ⟨bc,oc,rfl,_,y0,y1⟩:=(HIT.out.below HMM.out).2 k htl
   rw [List.getElem?_eq_getElem htl] at htk
   rw [Option.some.inj htk] at y0 y1
   have HTK:=Lib.hid (HTP.out wr nk x (HB47.out.trans (HMM.out.mono HB47.out.size)) hx hx1 hx2)
   obtain ⟨T,hT⟩:∃ T,strL (((evs.take x.fin).drop x.pos).flatMap evOut) = T:=⟨_,rfl⟩
   rw [hT] at HTK
   simp only at y0 y1 x0 x1
   rw [hT] at y1
   have HCE:Hid (∀ W,Below wr.heap.size wr W → W.cell? ⟨ba,oa + k,none⟩ = some (.int .i64 (nk:Int)) ∧ W.cell? ⟨bb,ob + k * 2,none⟩ = some (.int .i64 (nk:Int)) ∧ W.cell? ⟨bb,ob + k * 2 + 1,none⟩ = some (.int .i64 2) ∧ W.cell? ⟨bc,oc + k * 2,none⟩ = some (.int .i64 (nk:Int)) ∧ W.cell? ⟨bc,oc + k * 2 + 1,none⟩ = some (.string T)):=Lib.hid fun W hW =>
    ⟨(hW.cell (p:=⟨ba,oa + k,none⟩) (by assumption)).trans z0,(hW.cell (p:=⟨bb,ob + k * 2,none⟩) (by assumption)).trans x0,(hW.cell (p:=⟨bb,ob + k * 2 + 1,none⟩) (by assumption)).trans x1,(hW.cell (p:=⟨bc,oc + k * 2,none⟩) (by assumption)).trans y0,(hW.cell (p:=⟨bc,oc + k * 2 + 1,none⟩) (by assumption)).trans y1⟩
   have i1:(0:Int) ≤ (k:Int):=by omega
   have i2:(k:Int) < (lm:Int):=by omega
   have ewk:IntKind.i64.wrap ((k:Int) + 1) = (k:Int) + 1:=IntWalk.i64_in _ (by omega)
   clear hsk hx hx1 hx2 htk hsk2 htl hT x0 x1 y0 y1 HAT
   go_wp2_with fail
   (with_reducible refine HTK.out.mono ?_)
   rintro e w9 ⟨rfl,hb9⟩
   obtain ⟨z0,x0,x1,y0,y1⟩:=HCE.out w9 hb9
   have HB9:=Lib.hid (HMM.out.trans (hb9.mono HMM.out.size))
   have t1:(T.toList == T.toList) = true:=by simp
   clear hb9
   generalize (nk:Int) = nz at *
   go_wp2_with fail
   go_quiet (fail)
   go_wp2_with fail
   go_roundw
   case rel=>exact ⟨k + 1,by go_num,by omega,Below.drewN HB9.out _⟩
   case measure=>simp [intOf];omega
  ·have hk2:(lm:Int) ≤ (k:Int):=by omega
   have HB8:=Lib.hid (HB7.out.trans (HMM.out.mono HB7.out.size))
   go_wp2_with fail
   go_ret
   exact ⟨rfl,FIN.out _ HB8.out⟩
end Go.Proofs.YtgjokdngbocehaaGreatDoor
