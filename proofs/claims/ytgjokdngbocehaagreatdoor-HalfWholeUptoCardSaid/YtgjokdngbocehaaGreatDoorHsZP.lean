/-
  (asked).compares.
-/
import Derived.Test.YtgjokdngbocehaaGreatDoorHsA
import Derived.Test.YtgjokdngbocehaaGreatDoorHsD
import Derived.Test.YtgjokdngbocehaaGreatDoorHsE
import Derived.Test.YtgjokdngbocehaaGreatDoorHsH
import Derived.Test.YtgjokdngbocehaaGreatDoorHsL
import Derived.Test.YtgjokdngbocehaaGreatDoorHsN
import Derived.Test.YtgjokdngbocehaaGreatDoorHsO
import Derived.Test.YtgjokdngbocehaaGreatDoorHsR
import Derived.Test.YtgjokdngbocehaaGreatDoorHsU
import Derived.Test.YtgjokdngbocehaaGreatDoorHsZH
namespace Go.Proofs.YtgjokdngbocehaaGreatDoor
open Go.RowKit
theorem find_step {α:Type} (l:List α) (p:α → Bool) (j:Nat) (hj:j < l.length) (hn:∀ i (hi:i < l.length),i < j → p l[i] = false) (hp:p l[j] = true):l.find? p = some l[j]:=by
 rw [List.find?_eq_some_iff_getElem]
 exact ⟨hp,j,hj,rfl,fun i hi=>by simp [hn i (by omega) hi]⟩
theorem find_none {α:Type} (l:List α) (p:α → Bool) (hn:∀ i (hi:i < l.length),p l[i] = false):l.find? p = none:=by
 rw [List.find?_eq_none]
 intro x hx
 obtain ⟨i,hi,rfl⟩:=List.getElem_of_mem hx
 rw [hn i hi];decide
set_option maxRecDepth 100000 in
set_option maxHeartbeats 4000000 in
theorem compares_any {tb:Nat} {evs:List Ev} (n:Int) (x:PX) (aa:Option Addr) (ac:Nat) (pa:Option Addr) (pc:Nat) (w:World) (h:TQ w tb evs) (hn1:-1 ≤ n) (hn:n < (nodesB evs).length) (_hat:x.attr.length ≤ 1048576) (htx:x.text.length ≤ 1048576) :
  Calls Tryz.prog 151 #[.agg #[.pointer (some ⟨tb,0,none⟩)],.int .i64 n,.agg (exprC x aa ac pa pc).toArray] w fun e w'=>e = .returned (.bool (comparesP (treePT evs) n x)) ∧ Below w.heap.size w w':=by
 obtain ⟨R,hR⟩:∃ R,comparesP (treePT evs) n x = R:=⟨_,rfl⟩
 rw [hR]
 have HR:=Lib.hid hR
 unfold comparesP askedP at HR
 clear hR
 have hb0:=((Below.refl w.heap.size w).alloc (Nat.le_refl _) (.cells #[.pointer (some ⟨tb,0,none⟩)] 153)).alloc (by simp) (.cells (exprC x aa ac pa pc).toArray 42)
 have HB0:=Lib.hid hb0
 have hsz:((w.alloc (.cells #[.pointer (some ⟨tb,0,none⟩)] 153)).alloc (.cells (exprC x aa ac pa pc).toArray 42)).heap.size = w.heap.size + 2:=by simp
 have HBX:Hid (∀ W,Below (w.heap.size + 2) ((w.alloc (.cells #[.pointer (some ⟨tb,0,none⟩)] 153)).alloc (.cells (exprC x aa ac pa pc).toArray 42)) W → W.cell? ⟨w.heap.size + 1,3,none⟩ = some (.string (strL x.attr)) ∧ W.cell? ⟨w.heap.size + 1,4,none⟩ = some (.int .i64 x.cmp) ∧ W.cell? ⟨w.heap.size + 1,5,none⟩ = some (.string (strL x.text)) ∧ W.cell? ⟨w.heap.size + 1,6,none⟩ = some (.int .i64 x.num)):=Lib.hid fun W hW=>by
  have k:=fun j=>hW.cell (p:=⟨w.heap.size + 1,j,none⟩) (Nat.lt_succ_self _)
  have kn:=heap_alloc_new (w.alloc (.cells #[.pointer (some ⟨tb,0,none⟩)] 153)) (.cells (exprC x aa ac pa pc).toArray 42)
  rw [World.size_alloc] at kn
  refine ⟨(k 3).trans ?_,(k 4).trans ?_,(k 5).trans ?_,(k 6).trans ?_⟩ <;> (rw [cell_heap kn];rfl)
 have HVL:Hid (Calls Tryz.prog 156 #[.pointer (some ⟨tb,0,none⟩),.int .i64 n] ((w.alloc (.cells #[.pointer (some ⟨tb,0,none⟩)] 153)).alloc (.cells (exprC x aa ac pa pc).toArray 42)) fun e w'=>e = .returned (.tuple #[.string (strL ((treePT evs).value n)),.int .i64 0]) ∧ Below (w.heap.size + 2) ((w.alloc (.cells #[.pointer (some ⟨tb,0,none⟩)] 153)).alloc (.cells (exprC x aa ac pa pc).toArray 42)) w'):=Lib.hid (by
  have:=valueQ_any n _ (h.below hb0) hn1 hn
  rw [hsz] at this
  exact this)
 have hvl:((treePT evs).value n).length ≤ 1048576:=h.texts n n.toNat (by omega) hn
 have HCP:Hid (∀ (s:List UInt8) W,s.length ≤ 1048576 → Calls Tryz.prog 94 #[.string (strL s),.int .i64 x.cmp,.string (strL x.text),.int .i64 x.num] W fun e w'=>e = .returned (.tuple #[.bool ((cmpB s x.cmp x.text x.num).getD false),.int .i64 (if (cmpB s x.cmp x.text x.num).isSome then 0 else 4)]) ∧ Below W.heap.size W w'):=Lib.hid fun s W hs=>Compared_any s x.text x.cmp x.num W hs htx
 have hae:=strL_isE2 x.attr
 by_cases ha:x.attr = []
 ·rw [if_pos ha] at HR
  have hae2:(strL x.attr).toList.isEmpty = true:=by rw [hae,ha];rfl
  by_cases hc:x.cmp = 0
  ·have HF:Hid (true = R):=Lib.hid (by rw [← HR.out,hc];rfl)
   clear HR HCP HVL HBX h hb0 hae
   unfold exprC at *
   generalize strL x.attr = at3 at *
   generalize x.cmp = cm at *
   subst hc
   go_enter Tryz.func151,Tryz.ntmps151
   go_wp2_with fail
   go_ret
   exact ⟨ret_bool HF.out,HB0.out⟩
  ·have t0:((x.cmp:Int) == 0) = false:=by simpa using hc
   have HCV:=Lib.hid fun W=>HCP.out _ W hvl
   generalize (treePT evs).value n = sv at *
   have HF:Hid ((cmpB sv x.cmp x.text x.num).getD false = R):=HR
   clear HR HCP h hb0 hae hc
   generalize (cmpB sv x.cmp x.text x.num).getD false = R0 at *
   generalize (if (cmpB sv x.cmp x.text x.num).isSome then (0:Int) else 4) = R1 at *
   unfold exprC at *
   generalize strL x.attr = at3 at *
   generalize strL x.text = tx at *
   generalize strL sv = sv' at *
   generalize x.cmp = cm at *
   go_enter Tryz.func151,Tryz.ntmps151
   go_wp2_with fail
   (with_reducible refine HVL.out.mono ?_)
   rintro e w2 ⟨rfl,hb2⟩
   obtain ⟨c3,c4,c5,c6⟩:=HBX.out w2 hb2
   have HB2:=Lib.hid (HB0.out.trans (hb2.mono (by omega)))
   clear hb2
   go_wp2_with fail
   (with_reducible refine (HCV.out _).mono ?_)
   rintro e w3 ⟨rfl,hb3⟩
   go_wp2_with fail
   go_ret
   exact ⟨ret_bool HF.out,HB2.out.trans (hb3.mono HB2.out.size)⟩
 ·rw [if_neg ha] at HR
  have hae2:(strL x.attr).toList.isEmpty = false:=by
   rw [hae]
   cases hx:x.attr with
   | nil=>exact absurd hx ha
   | cons _ _=>rfl
  by_cases hneg:n < 0
  ·rw [if_pos hneg] at HR
   clear HCP HVL HBX h hb0 hae
   unfold exprC at *
   generalize strL x.attr = at3 at *
   go_enter Tryz.func151,Tryz.ntmps151
   go_wp2_with fail
   go_ret
   exact ⟨ret_bool HR.out,HB0.out⟩
  rw [if_neg hneg] at HR
  obtain ⟨i,rfl⟩:∃ i:Nat,n = (i:Int):=⟨n.toNat,by omega⟩
  have hil:i < (nodesB evs).length:=by omega
  rw [Int.toNat_natCast] at HR
  obtain ⟨_,_,_,hsm,_⟩:=h.node i hil
  have HND:Hid (Calls Tryz.prog 137 #[.pointer (some ⟨tb,0,none⟩),.int .i64 (i:Nat)] ((w.alloc (.cells #[.pointer (some ⟨tb,0,none⟩)] 153)).alloc (.cells (exprC x aa ac pa pc).toArray 42)) fun r w'=>∃ A m c,r = .returned (.tuple #[.agg (evC (nodeEv evs i).kind (nodeEv evs i).num (nodeEv evs i).dep (nodeEv evs i).name A m c (nodeEv evs i).text (nodeEv evs i).fr (nodeEv evs i).tt),.int .i64 0]) ∧ m ≤ c ∧ AttrsAt w' A m (nodeEv evs i).ats ∧ Below (w.heap.size + 2) ((w.alloc (.cells #[.pointer (some ⟨tb,0,none⟩)] 153)).alloc (.cells (exprC x aa ac pa pc).toArray 42)) w'):=Lib.hid (by
   have:=nodeQ_any i _ (h.below hb0) hil
   rw [hsz] at this
   exact this)
  have hal:(nodeEv evs i).ats.length ≤ 1048576:=hsm.2.2.1
  have HSM:Hid (∀ p ∈ (nodeEv evs i).ats,p.2.length ≤ 1048576):=Lib.hid fun p hp=>(hsm.2.2.2 p hp).2
  have HR2:Hid ((match ((nodeEv evs i).ats.find? fun p=>p.1 == x.attr).map (·.2) with | none=>false | some v=>(cmpB v x.cmp x.text x.num).getD false) = R):=HR
  unfold evC at HND
  have HSZ:Hid (w.heap.size + 2 ≤ ((w.alloc (.cells #[.pointer (some ⟨tb,0,none⟩)] 153)).alloc (.cells (exprC x aa ac pa pc).toArray 42)).heap.size):=Lib.hid (by rw [hsz];exact Nat.le_refl _)
  clear HR HVL h hb0 hae hsm hil ha hneg hvl hsz
  generalize nodeEv evs i = ev at *
  obtain ⟨kd,num,dep,name,ats,text,fr,tt⟩:=ev
  simp only at *
  unfold exprC at *
  go_enter Tryz.func151,Tryz.ntmps151
  go_wp2_with fail
  (with_reducible refine HND.out.mono ?_)
  rintro r w2 ⟨A,m,c,rfl,hmc,hA,hb2⟩
  have HB2:=Lib.hid (HB0.out.trans (hb2.mono (by omega)))
  have hs2:w.heap.size + 2 ≤ w2.heap.size:=Nat.le_trans HSZ.out hb2.size
  generalize hob:Obj.cells #[.int .i64 kd,.int .i64 num,.int .i64 dep,.string (strL name),.slice A m c,.string (strL text),.int .i64 fr,.int .i64 tt] 47 = ob
  have HB3:Hid (Below w.heap.size w (w2.alloc ob) ∧ Below (w.heap.size + 2) ((w.alloc (.cells #[.pointer (some ⟨tb,0,none⟩)] 153)).alloc (.cells #[.int .i64 x.op,.slice aa x.args.length ac,.slice pa x.path.length pc,.string (strL x.attr),.int .i64 x.cmp,.string (strL x.text),.int .i64 x.num] 42)) (w2.alloc ob) ∧ AttrsAt (w2.alloc ob) A m ats ∧ w.heap.size + 2 ≤ (w2.alloc ob).heap.size) :=
   Lib.hid ⟨HB2.out.alloc HB2.out.size _,hb2.alloc hs2 _,hA.below ((Below.refl _ _).alloc (Nat.le_refl _) _),by simp;omega⟩
  subst hob
  have HMA:Hid (m = ats.length):=Lib.hid hA.1
  have hm:m ≤ 1048576:=by have:=hA.1;omega
  clear hA hb2 HND HB2 hs2
  go_wp2_with fail
  generalize w2.alloc (.cells #[.int .i64 kd,.int .i64 num,.int .i64 dep,.string (strL name),.slice A m c,.string (strL text),.int .i64 fr,.int .i64 tt] 47) = w3 at *
  generalize w2.heap.size = P2 at *
  go_loopw [54] (fun jv wr=>∃ j:Nat,jv = .int .i64 j ∧ j ≤ m ∧ Hid (Below w3.heap.size w3 wr ∧ ∀ i (hi:i < ats.length),i < j → (ats[i].1 == x.attr) = false)) (fun jv _=>m - (intOf jv).toNat)
  case atStart=>exact ⟨0,rfl,Nat.zero_le _,Lib.hid ⟨Below.refl _ _,fun _ _ h=>absurd h (Nat.not_lt_zero _)⟩⟩
  case round =>
   obtain ⟨j,rfl,hjm,HJ⟩:=hrel
   by_cases hlt:j < m
   ·have hjl:j < ats.length:=by rw [← HMA.out];exact hlt
    obtain ⟨ab,ao,rfl,hab,k0,k1⟩:=(HB3.out.2.2.1.below HJ.out.1).2 j hjl
    have hcmp:=strL_cmp ats[j].1 x.attr
    have HLV:=Lib.hid (HSM.out _ (List.getElem_mem hjl))
    have HFN:Hid ((∀ i (hi:i < ats.length),i < j → (ats[i].1 == x.attr) = false) → (ats[j].1 == x.attr) = true → ats.find? (fun p=>p.1 == x.attr) = some ats[j]):=Lib.hid fun h1 h2=>find_step ats (fun p=>p.1 == x.attr) j hjl h1 h2
    have HNX:Hid ((ats[j].1 == x.attr) = false → ∀ i (hi:i < ats.length),i < j + 1 → (ats[i].1 == x.attr) = false):=Lib.hid fun h2 i hi hij=>by
     rcases Nat.lt_or_ge i j with h | h
     ·exact HJ.out.2 i hi h
     ·have:i = j:=by omega
      subst this;exact h2
    generalize ats[j] = p at *
    have hj1:(j:Int) < (m:Int):=by omega
    have hj2:(0:Int) ≤ (j:Int):=by omega
    have ewj:IntKind.i64.wrap ((j:Int) + 1) = (j:Int) + 1:=IntWalk.i64_in _ (by omega)
    have HBW:Hid (∀ o,Below w3.heap.size w3 (wr.alloc o) ∧ Below w.heap.size w (wr.alloc o) ∧ Below (w.heap.size + 2) ((w.alloc (.cells #[.pointer (some ⟨tb,0,none⟩)] 153)).alloc (.cells #[.int .i64 x.op,.slice aa x.args.length ac,.slice pa x.path.length pc,.string (strL x.attr),.int .i64 x.cmp,.string (strL x.text),.int .i64 x.num] 42)) (wr.alloc o)):=Lib.hid fun o=>by
     have h1:=HJ.out.1.alloc HJ.out.1.size o
     exact ⟨h1,HB3.out.1.trans (h1.mono HB3.out.1.size),HB3.out.2.1.trans (h1.mono HB3.out.2.2.2)⟩
    obtain ⟨c3,c4,c5,c6⟩:=HBX.out _ (HBW.out (.cells #[.string (strL p.1),.string (strL p.2)] 158)).2.2
    cases hpx:(p.1 == x.attr) with
    | true =>
     have hpe:p.1 = x.attr:=by simpa using hpx
     have hcm:((strL p.1).toList == (strL x.attr).toList) = true:=by rw [hcmp,decide_eq_true hpe]
     have HF:Hid ((cmpB p.2 x.cmp x.text x.num).getD false = R):=Lib.hid (by
      have h1:=HR2.out
      rw [HFN.out HJ.out.2 hpx] at h1
      exact h1)
     have HCV:=Lib.hid fun W=>HCP.out p.2 W HLV.out
     clear hcmp hpx hpe
     generalize (cmpB p.2 x.cmp x.text x.num).getD false = R0 at *
     generalize (if (cmpB p.2 x.cmp x.text x.num).isSome then (0:Int) else 4) = R1 at *
     go_wp2_with fail
     (with_reducible refine (HCV.out _).mono ?_)
     rintro e w5 ⟨rfl,hb5⟩
     have HB5:=Lib.hid ((HBW.out (.cells #[.string (strL p.1),.string (strL p.2)] 158)).2.1.trans (hb5.mono (HBW.out (.cells #[.string (strL p.1),.string (strL p.2)] 158)).2.1.size))
     clear hb5
     go_wp2_with fail
     go_ret
     exact ⟨ret_bool HF.out,HB5.out⟩
    | false =>
     have hpe:¬ p.1 = x.attr:=by simpa using hpx
     have hcm:((strL p.1).toList == (strL x.attr).toList) = false:=by rw [hcmp,decide_eq_false hpe]
     have HNN:=Lib.hid (HNX.out hpx)
     have HBA:=Lib.hid (HBW.out (.cells #[.string (strL p.1),.string (strL p.2)] 158)).1
     clear hcmp hpx hpe
     go_wp2_with fail
     go_roundw
     case rel=>exact ⟨j + 1,by go_num,by omega,Lib.hid ⟨HBA.out,HNN.out⟩⟩
     case measure=>simp [intOf];omega
   ·have HF:Hid (false = R):=Lib.hid (by
     have h1:=HR2.out
     rw [find_none ats _ fun i hi=>HJ.out.2 i hi (by have:=HMA.out;omega)] at h1
     exact h1)
    have hj1:(m:Int) ≤ (j:Int):=by omega
    go_wp2_with fail
    go_ret
    exact ⟨ret_bool HF.out,HB3.out.1.trans (HJ.out.1.mono HB3.out.1.size)⟩
end Go.Proofs.YtgjokdngbocehaaGreatDoor
namespace Go.Proofs.YtgjokdngbocehaaGreatDoor
open Go.RowKit
def boolV (l:List Bool):List Value:=l.map Value.bool
def RowB (w:World) (g:Nat) (l:List Bool):Prop:=w.heap[g]? = some (.cells (boolV l).toArray 4 (0,0))
theorem RowB.lt {w:World} {g:Nat} {l:List Bool} (h:RowB w g l):g < w.heap.size:=heap_lt h
theorem RowB.below {w w':World} {g B:Nat} {l:List Bool} (h:RowB w g l) (hg:g < B) (hb:Below B w w'):RowB w' g l:=(hb.block g hg).trans h
theorem RowB.keep {w w':World} {g:Nat} {l:List Bool} (h:RowB w g l) (hk:w'.heap[g]? = w.heap[g]?):RowB w' g l:=hk.trans h
theorem RowB.cell {w:World} {g:Nat} {l:List Bool} (h:RowB w g l) {i:Nat} {b:Bool} (hb:l[i]? = some b):w.cell? ⟨g,i,none⟩ = some (.bool b):=by
 rw [cell_heap h]
 simp [boolV,hb]
theorem RowB.frozen {w:World} {g:Nat} {l:List Bool} (h:RowB w g l) (i:Nat):w.frozen? ⟨g,i,none⟩ = false:=frozen_heap h
theorem RowB.set {w:World} {g:Nat} {l:List Bool} (h:RowB w g l) (i:Nat) (b:Bool):RowB (w.setCell ⟨g,i,none⟩ (.bool b)) g (l.set i b):=by
 unfold RowB
 rw [setCell_heap h]
 simp [boolV,List.map_set]
theorem infoBool:(Tryz.prog.info? 4).map (fun i=>(i.zero,i.size,i.bytes)) = some (some (.bool false),1,1):=by kernel_rfl
theorem own_fullB {w:World} {base n g:Nat} {l:List Bool} (h:w.ownsRow base 4 1 (.slice (some ⟨g,0,none⟩) n n) n (boolV l)):RowB w g l:=by
 obtain ⟨h1,h2⟩:=h
 rcases h2 with ⟨h0,_⟩ | ⟨g',cap',cur,hv,hg,hh,hn,hcap,hsz,htake⟩
 ·cases h0
 ·cases hv
  unfold RowB
  rw [hh,← htake,List.take_of_length_le (by rw [Array.length_toList,hsz];omega)]
theorem rowB_own {β:Type} (g:Nat) (f:β → List Bool):Own (fun s W=>RowB W g (f s)):=fun s X Y row hs hg hrow =>
 (hg.block g hs.lt (fun e=>by obtain ⟨o,ho,hc⟩:=hrow g e.symm;rw [show X.heap[g]? = _ from hs] at ho;cases ho;cases hc)).trans hs
theorem stepsF_in {g:Nat → Nat} {hi:Nat}:∀ (m k:Nat) (x:Int),x ∈ stepsF g hi m k → 0 ≤ x ∧ x < (hi:Int)
 | 0,_,_,h=>by cases h
 | m + 1,k,x,h=>by
  unfold stepsF at h
  split at h
  ·rcases List.mem_cons.1 h with rfl | h
   ·omega
   ·exact stepsF_in m _ x h
  ·cases h
theorem alongM_in {L:Nat} {f:Nat → Nat} (hf:∀ i,i < L → i ≤ f i ∧ f i < L) (v a x:Int) (h:x ∈ alongM L f v a):-1 ≤ x ∧ x < (L:Int):=by
 unfold alongM at h
 split at h
 ·cases h
 ·rename_i hn
  rcases List.mem_append.1 h with h | h
  ·split at h
   ·rw [List.mem_singleton] at h;omega
   ·cases h
  ·split at h
   ·cases h
   ·have h1:=stepsF_in _ _ _ h
    have h2:hiOf L f v ≤ L:=by
     unfold hiOf
     split
     ·exact Nat.le_refl _
     ·have:=(hf v.toNat (by omega)).2;omega
    omega
def valN {L:Nat} (l:List (NodeN L)):List Int:=l.map (·.1)
theorem valN_snoc {L:Nat} (l:List (NodeN L)) (x:NodeN L):valN (l ++ [x]) = valN l ++ [x.1]:=by unfold valN;rw [List.map_append];rfl
theorem frame_named {P:Program} {c:Code} {Q:Exit → Act → World → Prop} {T0:Array Value} {ds:List Deferred} {w:World} (h:∀ T,T = T0 → c.wp P Q { tmps:=T,defers:=ds } w):c.wp P Q { tmps:=T0,defers:=ds } w:=h T0 rfl
def MarksAt (w:World) (B:Nat) (ds:List Deferred):Prop:=ds.Pairwise (fun x y=>x ≠ y) ∧ ∀ d ∈ ds,∃ D,d = { target:=.collected D,args:=#[] } ∧ B ≤ D ∧ w.heap[D]? = some (.deferred (some []))
theorem MarksAt.nil (w:World) (B:Nat):MarksAt w B []:=⟨List.Pairwise.nil,fun _ h=>by cases h⟩
theorem MarksAt.keep {w w':World} {B:Nat} {ds:List Deferred} (h:MarksAt w B ds) (hk:∀ D,B ≤ D → w.heap[D]? = some (.deferred (some [])) → w'.heap[D]? = some (.deferred (some []))):MarksAt w' B ds :=
 ⟨h.1,fun d hd=>by obtain ⟨D,h1,h2,h3⟩:=h.2 d hd;exact ⟨D,h1,h2,hk D h2 h3⟩⟩
theorem MarksAt.push {w w':World} {B D:Nat} {ds:List Deferred} (h:MarksAt w B ds) (hB:B ≤ D) (hD:w.heap.size ≤ D) (hk:∀ k,k < w.heap.size → w.heap[k]? = some (.deferred (some [])) → w'.heap[k]? = some (.deferred (some []))) (hn:w'.heap[D]? = some (.deferred (some []))) :
  MarksAt w' B ({ target:=.collected D,args:=#[] } :: ds):=by
 refine ⟨List.Pairwise.cons (fun y hy e=>?_) h.1,fun d hd=>?_⟩
 ·obtain ⟨D',h1,_,h3⟩:=h.2 y hy
  rw [h1] at e
  injection e with e1 _
  injection e1 with e2
  have:=heap_lt h3
  omega
 ·rcases List.mem_cons.1 hd with rfl | hd
  ·exact ⟨D,rfl,hB,hn⟩
  ·obtain ⟨D',h1,h2,h3⟩:=h.2 d hd
   exact ⟨D',h1,h2,hk D' (heap_lt h3) h3⟩
theorem leaves_marks {F:Fence} {n:Nat} {fn:Func} {tmps:Array Value} {R:Ending → World → Prop} {B:Nat} {v:Value}:∀ (ds:List Deferred) (w:World),MarksAt w B ds →
  (∀ w',Below B w w' → w.heap.size ≤ w'.heap.size → (∀ k,(∀ d ∈ ds,d ≠ { target:=.collected k,args:=#[] }) → w'.heap[k]? = w.heap[k]?) → (results fn tmps).run Tryz.prog w' = .ok v w' ∧ R (.returned v) w') → LeavesInM F n Tryz.prog fn tmps R ds .returning w:=by
 intro ds
 induction ds with
 | nil =>
  intro w _ hfin
  obtain ⟨h1,h2⟩:=hfin w (Below.refl _ _) (Nat.le_refl _) (fun _ _=>rfl)
  exact ⟨v,h1,h2⟩
 | cons d ds ih =>
  intro w hm hfin
  obtain ⟨D,rfl,hB,hD⟩:=hm.2 _ List.mem_cons_self
  refine ⟨by simp,.inl ⟨D,_,rfl,run_takeDeferred hD,ih _ ⟨(List.pairwise_cons.1 hm.1).2,fun d hd=>?_⟩ fun w' hb hs hk=>hfin w' ?_ ?_ fun k hne=>?_⟩⟩
  ·obtain ⟨D',h1,h2,h3⟩:=hm.2 d (List.mem_cons_of_mem _ hd)
   refine ⟨D',h1,h2,?_⟩
   have hne:D' ≠ D:=fun e=>(List.pairwise_cons.1 hm.1).1 d hd (by rw [h1,e])
   exact (World.putObj_heap_other hne).trans h3
  ·have h0:Below B w (w.putObj D (.deferred none)):=⟨rfl,rfl,rfl,by simp [World.putObj],fun k hk=>World.putObj_heap_other (by omega)⟩
   exact h0.trans hb
  ·exact Nat.le_trans (by simp [World.putObj]) hs
  ·rw [hk k fun d hd=>hne d (List.mem_cons_of_mem _ hd)]
   exact World.putObj_heap_other (fun e=>hne _ List.mem_cons_self (by rw [e]))
structure SIn (w W:World) (tb P8 G P9 P10 gi n:Nat) (sC:List Value) (fri tj:List Bool) (cj:Int) (ds:List Deferred):Prop where
 bel:Below w.heap.size w W
 ask:W.heap[w.heap.size]? = some (.cells #[.pointer (some ⟨tb,0,none⟩)] 153 (0,0))
 stp:W.heap[P8]? = some (.cells sC.toArray 76 (0,0))
 row:RowB W G tj
 b9:W.heap[P9]? = some (.cells #[.slice (some ⟨G,0,none⟩) n n] 150 (0,0))
 b10:W.heap[P10]? = some (.cells #[.int .i64 cj] 3 (0,0))
 fr:RowB W gi fri
 mks:MarksAt W w.heap.size ds
theorem SIn.below {w W W':World} {tb P8 G P9 P10 gi n:Nat} {sC:List Value} {fri tj:List Bool} {cj:Int} {ds:List Deferred} (h:SIn w W tb P8 G P9 P10 gi n sC fri tj cj ds) (hb:Below W.heap.size W W'):SIn w W' tb P8 G P9 P10 gi n sC fri tj cj ds :=
 ⟨h.bel.trans (hb.mono h.bel.size),(hb.block _ (heap_lt h.ask)).trans h.ask,(hb.block _ (heap_lt h.stp)).trans h.stp,h.row.below h.row.lt hb,(hb.block _ (heap_lt h.b9)).trans h.b9,(hb.block _ (heap_lt h.b10)).trans h.b10,h.fr.below h.fr.lt hb,
  h.mks.keep fun _ _ hD=>(hb.block _ (heap_lt hD)).trans hD⟩
theorem marks_set {w:World} {B b j:Nat} {u:Value} {ds:List Deferred} (h:MarksAt w B ds) (hc:∃ c e fz,w.heap[b]? = some (.cells c e fz)):MarksAt (w.setCell ⟨b,j,none⟩ u) B ds:=by
 refine h.keep fun D _ hD=>?_
 obtain ⟨c,e,fz,hc⟩:=hc
 have hne:D ≠ b:=fun e=>by rw [e,hc] at hD;cases hD
 rw [Below.heap_setCell _ _ _ _ hne];exact hD
theorem SIn.setRow {w W:World} {tb P8 G P9 P10 gi n:Nat} {sC:List Value} {fri tj:List Bool} {cj:Int} {ds:List Deferred} (h:SIn w W tb P8 G P9 P10 gi n sC fri tj cj ds) (hG:w.heap.size < G ∧ G ≠ P8 ∧ G ≠ P9 ∧ G ≠ P10 ∧ G ≠ gi) (i:Nat) (b:Bool) :
  SIn w (W.setCell ⟨G,i,none⟩ (.bool b)) tb P8 G P9 P10 gi n sC fri (tj.set i b) cj ds:=by
 have k:∀ q,q ≠ G → (W.setCell ⟨G,i,none⟩ (.bool b)).heap[q]? = W.heap[q]?:=fun q hq=>Below.heap_setCell _ _ _ _ hq
 exact ⟨h.bel.setCell (p:=⟨G,i,none⟩) (Nat.le_of_lt hG.1) _,(k _ (by omega)).trans h.ask,(k _ (by omega)).trans h.stp,h.row.set i b,(k _ (by omega)).trans h.b9,(k _ (by omega)).trans h.b10,(k _ (by omega)).trans h.fr,marks_set h.mks ⟨_,_,_,h.row⟩⟩
section
variable {w W:World} {tb P8 G P9 P10 gi n:Nat} {s:PS} {wa:Option Addr} {wc:Nat} {fri tj:List Bool} {cj:Int} {ds:List Deferred}
theorem SIn.stepCell (h:SIn w W tb P8 G P9 P10 gi n (stepC s wa wc) fri tj cj ds):W.cell? ⟨P8,0,none⟩ = some (.int .i64 s.axis):=by rw [cell_heap h.stp];rfl
theorem SIn.stepCell3 (h:SIn w W tb P8 G P9 P10 gi n (stepC s wa wc) fri tj cj ds):W.cell? ⟨P8,1,none⟩ = some (.int .i64 s.test) ∧ W.cell? ⟨P8,2,none⟩ = some (.string (strL s.name)) ∧ W.cell? ⟨P8,3,none⟩ = some (.slice wa s.wher.length wc):=by rw [cell_heap h.stp,cell_heap h.stp,cell_heap h.stp];exact ⟨rfl,rfl,rfl⟩
theorem SIn.c9 {sC:List Value} (h:SIn w W tb P8 G P9 P10 gi n sC fri tj cj ds):W.cell? ⟨P9,0,none⟩ = some (.slice (some ⟨G,0,none⟩) n n):=by rw [cell_heap h.b9];rfl
theorem SIn.c10 {sC:List Value} (h:SIn w W tb P8 G P9 P10 gi n sC fri tj cj ds):W.cell? ⟨P10,0,none⟩ = some (.int .i64 cj):=by rw [cell_heap h.b10];rfl
theorem SIn.c3 {sC:List Value} (h:SIn w W tb P8 G P9 P10 gi n sC fri tj cj ds):W.cell? ⟨w.heap.size,0,none⟩ = some (.pointer (some ⟨tb,0,none⟩)):=by rw [cell_heap h.ask];rfl
end
end Go.Proofs.YtgjokdngbocehaaGreatDoor
