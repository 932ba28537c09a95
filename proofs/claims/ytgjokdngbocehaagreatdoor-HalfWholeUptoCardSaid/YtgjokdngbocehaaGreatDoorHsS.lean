/-
  half: what one node tells of a question.
-/
import Derived.Test.YtgjokdngbocehaaGreatDoorHsA
import Derived.Test.YtgjokdngbocehaaGreatDoorHsD
import Derived.Test.YtgjokdngbocehaaGreatDoorHsE
import Derived.Test.YtgjokdngbocehaaGreatDoorHsN
import Derived.Test.YtgjokdngbocehaaGreatDoorHsQ
import Derived.Test.YtgjokdngbocehaaGreatDoorHsR
namespace Go.Proofs.YtgjokdngbocehaaGreatDoor
open Go.RowKit
theorem find_stepH {α:Type} (l:List α) (p:α → Bool) (j:Nat) (hj:j < l.length) (hn:∀ i (hi:i < l.length),i < j → p l[i] = false) (hp:p l[j] = true):l.find? p = some l[j]:=by
 rw [List.find?_eq_some_iff_getElem]
 exact ⟨hp,j,hj,rfl,fun i hi=>by simp [hn i (by omega) hi]⟩
theorem find_noneH {α:Type} (l:List α) (p:α → Bool) (hn:∀ i (hi:i < l.length),p l[i] = false):l.find? p = none:=by
 rw [List.find?_eq_none]
 intro x hx
 obtain ⟨i,hi,rfl⟩:=List.getElem_of_mem hx
 rw [hn i hi];decide
set_option maxRecDepth 100000 in
set_option maxHeartbeats 4000000 in
theorem hasks_any (h:HN) (A:Option Addr) (m c:Nat) (x:PX) (aa:Option Addr) (ac:Nat) (pa:Option Addr) (pc:Nat) (w:World) (hA:AttrsAt w A m h.ev.ats) (hm:m ≤ 1048576) (hsm:∀ p ∈ h.ev.ats,p.2.length ≤ 1048576) (h1:h.txt.length ≤ 1048576) (h2:x.text.length ≤ 1048576) :
  Calls Tryz.prog 63 #[.agg (hnL h A m c).toArray,.agg (exprC x aa ac pa pc).toArray] w fun e w'=>e = .returned (.int .i64 (asksT h x)) ∧ Below w.heap.size w w':=by
 obtain ⟨R,hR⟩:∃ R,asksT h x = R:=⟨_,rfl⟩
 rw [hR]
 have HR:=Lib.hid hR
 unfold asksT at HR
 clear hR
 have HE:=Lib.hid fun W=>hearly_any h A m c x aa ac pa pc W h1 h2
 have HTR:=Lib.hid truth_any
 rw [hnL_eq] at *
 unfold exprC at *
 have HB0:Hid (∀ W,Below (w.heap.size + 2) ((w.alloc (.cells #[.int .i64 h.ev.kind,.int .i64 h.ev.num,.int .i64 h.ev.dep,.string (strL h.ev.name),.slice A m c,.string (strL h.ev.text),.int .i64 h.ev.fr,.int .i64 h.ev.tt,.int .i64 h.kd,.int .i64 h.par,.bool h.op,.string (strL h.txt),.int .i64 h.bg,.int .i64 h.en] 99)).alloc (.cells #[.int .i64 x.op,.slice aa x.args.length ac,.slice pa x.path.length pc,.string (strL x.attr),.int .i64 x.cmp,.string (strL x.text),.int .i64 x.num] 42)) W → Below w.heap.size w W ∧ w.heap.size + 2 ≤ W.heap.size ∧ (∀ j,j < 14 → W.cell? ⟨w.heap.size,j,none⟩ = (hnL h A m c)[j]?) ∧ (∀ j,j < 7 → W.cell? ⟨w.heap.size + 1,j,none⟩ = (exprC x aa ac pa pc)[j]?)):=Lib.hid fun W hW=>by
  have hb0:=((Below.refl w.heap.size w).alloc (Nat.le_refl _) (.cells #[.int .i64 h.ev.kind,.int .i64 h.ev.num,.int .i64 h.ev.dep,.string (strL h.ev.name),.slice A m c,.string (strL h.ev.text),.int .i64 h.ev.fr,.int .i64 h.ev.tt,.int .i64 h.kd,.int .i64 h.par,.bool h.op,.string (strL h.txt),.int .i64 h.bg,.int .i64 h.en] 99)).alloc (by simp) (.cells #[.int .i64 x.op,.slice aa x.args.length ac,.slice pa x.path.length pc,.string (strL x.attr),.int .i64 x.cmp,.string (strL x.text),.int .i64 x.num] 42)
  have kn:=heap_alloc_new (w.alloc (.cells #[.int .i64 h.ev.kind,.int .i64 h.ev.num,.int .i64 h.ev.dep,.string (strL h.ev.name),.slice A m c,.string (strL h.ev.text),.int .i64 h.ev.fr,.int .i64 h.ev.tt,.int .i64 h.kd,.int .i64 h.par,.bool h.op,.string (strL h.txt),.int .i64 h.bg,.int .i64 h.en] 99)) (.cells #[.int .i64 x.op,.slice aa x.args.length ac,.slice pa x.path.length pc,.string (strL x.attr),.int .i64 x.cmp,.string (strL x.text),.int .i64 x.num] 42)
  rw [World.size_alloc] at kn
  have k0:=(Below.heap_alloc (w.alloc (.cells #[.int .i64 h.ev.kind,.int .i64 h.ev.num,.int .i64 h.ev.dep,.string (strL h.ev.name),.slice A m c,.string (strL h.ev.text),.int .i64 h.ev.fr,.int .i64 h.ev.tt,.int .i64 h.kd,.int .i64 h.par,.bool h.op,.string (strL h.txt),.int .i64 h.bg,.int .i64 h.en] 99)) (.cells #[.int .i64 x.op,.slice aa x.args.length ac,.slice pa x.path.length pc,.string (strL x.attr),.int .i64 x.cmp,.string (strL x.text),.int .i64 x.num] 42) w.heap.size (by simp)).trans (heap_alloc_new w _)
  refine ⟨hb0.trans (hW.mono (by omega)),by have:=hW.size;simp at this;omega,fun j hj=>(hW.cell (p:=⟨w.heap.size,j,none⟩) (by show w.heap.size < w.heap.size + 2;omega)).trans ?_,fun j hj=>(hW.cell (p:=⟨w.heap.size + 1,j,none⟩) (Nat.lt_succ_self _)).trans ?_⟩
  ·rw [cell_heap k0,hnL_eq];simp
  ·rw [cell_heap kn];unfold exprC;simp
 have HS:Hid (((w.alloc (.cells #[.int .i64 h.ev.kind,.int .i64 h.ev.num,.int .i64 h.ev.dep,.string (strL h.ev.name),.slice A m c,.string (strL h.ev.text),.int .i64 h.ev.fr,.int .i64 h.ev.tt,.int .i64 h.kd,.int .i64 h.par,.bool h.op,.string (strL h.txt),.int .i64 h.bg,.int .i64 h.en] 99)).alloc (.cells #[.int .i64 x.op,.slice aa x.args.length ac,.slice pa x.path.length pc,.string (strL x.attr),.int .i64 x.cmp,.string (strL x.text),.int .i64 x.num] 42)).heap.size = w.heap.size + 2):=Lib.hid (by simp)
 have HCP:Hid (∀ (s:List UInt8) W,s.length ≤ 1048576 → Calls Tryz.prog 94 #[.string (strL s),.int .i64 x.cmp,.string (strL x.text),.int .i64 x.num] W fun e w'=>e = .returned (.tuple #[.bool ((cmpB s x.cmp x.text x.num).getD false),.int .i64 (if (cmpB s x.cmp x.text x.num).isSome then 0 else 4)]) ∧ Below W.heap.size W w'):=Lib.hid fun s W hs=>Compared_any s x.text x.cmp x.num W hs h2
 have hae:(strL x.attr).toList.isEmpty = x.attr.isEmpty:=strU_empty x.attr
 by_cases ha:x.attr = []
 ·rw [if_neg (by simpa using ha)] at HR
  have hae2:(strL x.attr).toList.isEmpty = true:=by rw [hae,ha];rfl
  cases hop:h.op with
  | true =>
   have HF:Hid (earlyT h.txt x = R):=Lib.hid (by have:=HR.out;rw [hop] at this;exact this)
   simp only [hop] at HE HB0 HS
   clear HR HCP hA hsm hae
   generalize earlyT h.txt x = R0 at *
   generalize strL x.attr = at3 at *
   go_enter Tryz.func63,Tryz.ntmps63
   go_wp2_with fail
   (with_reducible refine (HE.out _).mono ?_)
   rintro e w2 ⟨rfl,hb2⟩
   rw [HS.out] at hb2
   have HB2:=Lib.hid hb2
   clear hb2
   go_wp2_with fail
   go_ret
   exact ⟨ret_int HF.out,(HB0.out _ HB2.out).1⟩
  | false =>
   have HF:Hid (truthI ((cmpB h.txt x.cmp x.text x.num).getD false) = R):=Lib.hid (by have:=HR.out;rw [hop] at this;exact this)
   simp only [hop] at HE HB0 HS
   have HCV:=Lib.hid fun W=>HCP.out _ W h1
   clear HR HCP hA hsm hae HE
   generalize (cmpB h.txt x.cmp x.text x.num).getD false = R0 at *
   generalize (if (cmpB h.txt x.cmp x.text x.num).isSome then (0:Int) else 4) = R1 at *
   generalize strL x.attr = at3 at *
   generalize strL x.text = tx at *
   generalize strL h.txt = sv' at *
   generalize x.cmp = cm at *
   go_enter Tryz.func63,Tryz.ntmps63
   go_wp2_with fail
   (with_reducible refine (HCV.out _).mono ?_)
   rintro e w3 ⟨rfl,hb3⟩
   rw [HS.out] at hb3
   have HB3:=Lib.hid hb3
   clear hb3
   go_wp2_with fail
   (with_reducible refine (HTR.out _ _).mono ?_)
   rintro e w4 ⟨rfl,rfl⟩
   go_wp2_with fail
   go_ret
   exact ⟨ret_int HF.out,(HB0.out _ HB3.out).1⟩
 ·rw [if_pos ha] at HR
  have hae2:(strL x.attr).toList.isEmpty = false:=by
   rw [hae]
   cases hx:x.attr with
   | nil=>exact absurd hx ha
   | cons _ _=>rfl
  have HSM:=Lib.hid hsm
  have HA:=Lib.hid hA
  have HMA:Hid (m = h.ev.ats.length):=Lib.hid hA.1
  clear HE hA hsm hae ha
  generalize hats:h.ev.ats = ats at *
  go_enter Tryz.func63,Tryz.ntmps63
  go_wp2_with fail
  have HBR:=Lib.hid (Below.refl (w.heap.size + 2) ((w.alloc (.cells #[.int .i64 h.ev.kind,.int .i64 h.ev.num,.int .i64 h.ev.dep,.string (strL h.ev.name),.slice A m c,.string (strL h.ev.text),.int .i64 h.ev.fr,.int .i64 h.ev.tt,.int .i64 h.kd,.int .i64 h.par,.bool h.op,.string (strL h.txt),.int .i64 h.bg,.int .i64 h.en] 99)).alloc (.cells #[.int .i64 x.op,.slice aa x.args.length ac,.slice pa x.path.length pc,.string (strL x.attr),.int .i64 x.cmp,.string (strL x.text),.int .i64 x.num] 42)))
  generalize ((w.alloc (.cells #[.int .i64 h.ev.kind,.int .i64 h.ev.num,.int .i64 h.ev.dep,.string (strL h.ev.name),.slice A m c,.string (strL h.ev.text),.int .i64 h.ev.fr,.int .i64 h.ev.tt,.int .i64 h.kd,.int .i64 h.par,.bool h.op,.string (strL h.txt),.int .i64 h.bg,.int .i64 h.en] 99)).alloc (.cells #[.int .i64 x.op,.slice aa x.args.length ac,.slice pa x.path.length pc,.string (strL x.attr),.int .i64 x.cmp,.string (strL x.text),.int .i64 x.num] 42)) = w3 at *
  go_loopw [18] (fun jv wr=>∃ j:Nat,jv = .int .i64 j ∧ j ≤ m ∧ Hid (Below (w.heap.size + 2) w3 wr ∧ ∀ i (hi:i < ats.length),i < j → (ats[i].1 == x.attr) = false)) (fun jv _=>m - (intOf jv).toNat)
  case atStart=>exact ⟨0,rfl,Nat.zero_le _,Lib.hid ⟨HBR.out,fun _ _ h=>absurd h (Nat.not_lt_zero _)⟩⟩
  case round =>
   obtain ⟨j,rfl,hjm,HJ⟩:=hrel
   by_cases hlt:j < m
   ·have hjl:j < ats.length:=by rw [← HMA.out];exact hlt
    obtain ⟨ab,ao,rfl,hab,k0,k1⟩:=(HA.out.below (HB0.out _ HJ.out.1).1).2 j hjl
    have hcmp:((strL ats[j].1).toList == (strL x.attr).toList) = decide (ats[j].1 = x.attr):=strL_cmpH _ _
    have HLV:=Lib.hid (HSM.out _ (List.getElem_mem hjl))
    have HFN:Hid ((∀ i (hi:i < ats.length),i < j → (ats[i].1 == x.attr) = false) → (ats[j].1 == x.attr) = true → ats.find? (fun p=>p.1 == x.attr) = some ats[j]):=Lib.hid fun h1 h2=>find_stepH ats (fun p=>p.1 == x.attr) j hjl h1 h2
    have HNX:Hid ((ats[j].1 == x.attr) = false → ∀ i (hi:i < ats.length),i < j + 1 → (ats[i].1 == x.attr) = false):=Lib.hid fun h2 i hi hij=>by
     rcases Nat.lt_or_ge i j with h | h
     ·exact HJ.out.2 i hi h
     ·have:i = j:=by omega
      subst this;exact h2
    generalize ats[j] = p at *
    have hj1:(j:Int) < (m:Int):=by omega
    have hj2:(0:Int) ≤ (j:Int):=by omega
    have ewj:IntKind.i64.wrap ((j:Int) + 1) = (j:Int) + 1:=IntWalk.i64_in _ (by omega)
    have HBW:Hid (∀ o,Below (w.heap.size + 2) w3 (wr.alloc o) ∧ w.heap.size + 2 ≤ (wr.alloc o).heap.size):=Lib.hid fun o=>by
     have h2:=(HB0.out _ HJ.out.1).2.1
     exact ⟨HJ.out.1.alloc h2 o,by simp;omega⟩
    obtain ⟨_,_,_,cx⟩:=HB0.out _ (HBW.out (.cells #[.string (strL p.1),.string (strL p.2)] 158)).1
    have c3:=cx 3 (by decide)
    have c4:=cx 4 (by decide)
    have c5:=cx 5 (by decide)
    have c6:=cx 6 (by decide)
    unfold exprC at c3 c4 c5 c6
    simp only [List.getElem?_cons_succ,List.getElem?_cons_zero] at c3 c4 c5 c6
    clear cx
    cases hpx:(p.1 == x.attr) with
    | true =>
     have hpe:p.1 = x.attr:=by simpa using hpx
     have hcm:((strL p.1).toList == (strL x.attr).toList) = true:=by rw [hcmp,decide_eq_true hpe]
     have HF:Hid (truthI ((cmpB p.2 x.cmp x.text x.num).getD false) = R):=Lib.hid (by
      have h1:=HR.out
      rw [HFN.out HJ.out.2 hpx] at h1
      exact h1)
     have HCV:=Lib.hid fun W=>HCP.out p.2 W HLV.out
     clear hcmp hpx hpe
     generalize (cmpB p.2 x.cmp x.text x.num).getD false = R0 at *
     generalize (if (cmpB p.2 x.cmp x.text x.num).isSome then (0:Int) else 4) = R1 at *
     go_wp2_with fail
     (with_reducible refine (HCV.out _).mono ?_)
     rintro e w5 ⟨rfl,hb5⟩
     have HB5:=Lib.hid ((HBW.out (.cells #[.string (strL p.1),.string (strL p.2)] 158)).1.trans (hb5.mono (HBW.out (.cells #[.string (strL p.1),.string (strL p.2)] 158)).2))
     clear hb5
     go_wp2_with fail
     (with_reducible refine (HTR.out _ _).mono ?_)
     rintro e w6 ⟨rfl,rfl⟩
     go_wp2_with fail
     go_ret
     exact ⟨ret_int HF.out,(HB0.out _ HB5.out).1⟩
    | false =>
     have hpe:¬ p.1 = x.attr:=by simpa using hpx
     have hcm:((strL p.1).toList == (strL x.attr).toList) = false:=by rw [hcmp,decide_eq_false hpe]
     have HNN:=Lib.hid (HNX.out hpx)
     have HBA:=Lib.hid (HBW.out (.cells #[.string (strL p.1),.string (strL p.2)] 158)).1
     clear hcmp hpx hpe
     go_wp2_with fail
     go_roundw
     case rel=>exact ⟨j + 1,by go_num,by omega,Lib.hid ⟨HBA.out,HNN.out⟩⟩
     case measure=>simp [intOf];omega
   ·have HF:Hid ((0:Int) = R):=Lib.hid (by
     have h1:=HR.out
     rw [find_noneH ats _ fun i hi=>HJ.out.2 i hi (by have:=HMA.out;omega)] at h1
     exact h1)
    have hj1:(m:Int) ≤ (j:Int):=by omega
    go_wp2_with fail
    go_ret
    exact ⟨ret_int HF.out,(HB0.out _ HJ.out.1).1⟩
end Go.Proofs.YtgjokdngbocehaaGreatDoor
namespace Go.Proofs.YtgjokdngbocehaaGreatDoor
open Go.RowKit
def tsC (l:List Int):List Value:=l.map (Value.int .i64)
theorem tsC_len (l:List Int):(tsC l).length = l.length:=by simp [tsC]
theorem tsC_set (l:List Int) (k:Nat) (v:Int):(tsC l).set k (.int .i64 v) = tsC (l.set k v):=by unfold tsC;rw [List.map_set]
theorem tsC_at (l:List Int) (k:Nat) (h:k < l.length):(tsC l)[k]? = some (.int .i64 l[k]):=by unfold tsC;rw [List.getElem?_map,List.getElem?_eq_getElem h];rfl
theorem tsC_zero (n:Nat):(madeCells #[Value.int .i64 0] n).toList = tsC (List.replicate n 0):=by
 unfold madeCells tsC
 refine List.ext_getElem (by simp) fun i h1 h2=>?_
 simp [Nat.mod_one]
def mixR (n k:Nat) (g h:Nat → Int):List Int:=rowOf n fun j=>if j < k then g j else h j
theorem mixR_len (n k:Nat) (g h:Nat → Int):(mixR n k g h).length = n:=rowOf_len ..
theorem rowOf_get (n:Nat) (g:Nat → Int) (k:Nat) (h:k < (rowOf n g).length):(rowOf n g)[k] = g k:=by simp [rowOf]
theorem rowOf_congr {n:Nat} {g h:Nat → Int} (e:∀ j,j < n → g j = h j):rowOf n g = rowOf n h:=by
 unfold rowOf
 exact List.map_congr_left fun j hj=>e j (List.mem_range.1 hj)
theorem rowOf_getD (n:Nat) (g:Nat → Int) (k:Nat) (h:k < n):(rowOf n g).getD k 0 = g k:=by rw [List.getD_eq_getElem?_getD,rowOf_at n g k h];rfl
theorem rowOf_self (n:Nat) (l:List Int) (h:l.length = n):rowOf n (fun j=>l.getD j 0) = l:=by
 refine List.ext_getElem (by rw [rowOf_len,h]) fun i h1 h2=>?_
 rw [rowOf_get];simp [h2]
theorem mixR_zero (n:Nat) (g h:Nat → Int):mixR n 0 g h = rowOf n h:=rowOf_congr fun j _=>if_neg (Nat.not_lt_zero j)
theorem mixR_all (n:Nat) (g h:Nat → Int):mixR n n g h = rowOf n g:=rowOf_congr fun _ hj=>if_pos hj
theorem mixR_set (n k:Nat) (g h:Nat → Int) (v:Int) (hv:v = g k):(mixR n k g h).set k v = mixR n (k + 1) g h:=by
 subst hv
 refine List.ext_getElem (by rw [List.length_set,mixR_len,mixR_len]) fun i h1 h2=>?_
 rw [List.getElem_set,show (mixR n k g h)[i]'(by rw [List.length_set] at h1;exact h1) = (if i < k then g i else h i) from rowOf_get _ _ _ _,show (mixR n (k + 1) g h)[i]'h2 = (if i < k + 1 then g i else h i) from rowOf_get _ _ _ _]
 by_cases e:k = i
 ·subst e;rw [if_pos rfl,if_pos (Nat.lt_succ_self _)]
 ·rw [if_neg e]
  by_cases e2:i < k
  ·rw [if_pos e2,if_pos (by omega)]
  ·rw [if_neg e2,if_neg (by omega)]
theorem mixR_get (n k i:Nat) (g h:Nat → Int) (hi:i < n) (hk:k ≤ i):(mixR n k g h)[i]? = some (h i):=by
 unfold mixR;rw [rowOf_at _ _ _ hi,if_neg (by omega)]
structure HAt (w:World) (hb:Nat) (hs:List HN):Prop where
 lt:hb < w.heap.size
 pos:1 ≤ hs.length
 cap:hs.length ≤ 1048577
 par:∀ (i:Nat) (h:HN),hs[i]? = some h → 1 ≤ i → 0 ≤ h.par ∧ h.par < (i:Int)
 row:∃ (a:Option Addr) (c:Nat),w.cell? ⟨hb,1,none⟩ = some (.slice a hs.length c) ∧ ∀ i,(h:i < hs.length) → ∃ (b o:Nat) (A:Option Addr) (m c:Nat),a = some ⟨b,o,none⟩ ∧ b < w.heap.size ∧ m ≤ c ∧ m ≤ 1048576 ∧ AttrsAt w A m hs[i].ev.ats ∧ (∀ p ∈ hs[i].ev.ats,p.2.length ≤ 1048576) ∧ hs[i].txt.length ≤ 1048576 ∧
  ∀ j,j < 14 → w.cell? ⟨b,o + i * 14 + j,none⟩ = (hnL hs[i] A m c)[j]?
theorem HAt.below {w w':World} {hb:Nat} {hs:List HN} (h:HAt w hb hs) (hB:Below w.heap.size w w'):HAt w' hb hs:=by
 obtain ⟨h1,h2,h3,hp,a,c,h4,h5⟩:=h
 refine ⟨Nat.lt_of_lt_of_le h1 hB.size,h2,h3,hp,a,c,(hB.cell (p:=⟨hb,1,none⟩) h1).trans h4,fun i hi=>?_⟩
 obtain ⟨b,o,A,m,c,g1,g2,g3,g4,g5,g6,g7,g8⟩:=h5 i hi
 exact ⟨b,o,A,m,c,g1,Nat.lt_of_lt_of_le g2 hB.size,g3,g4,g5.below hB,g6,g7,fun j hj=>(hB.cell (p:=⟨b,o + i * 14 + j,none⟩) g2).trans (g8 j hj)⟩
theorem HAt.get {w:World} {hb:Nat} {hs:List HN} (h:HAt w hb hs):∃ (a:Option Addr) (c:Nat),hb < w.heap.size ∧ (∀ W,Below w.heap.size w W → W.cell? ⟨hb,1,none⟩ = some (.slice a hs.length c)) ∧ ∀ i,(hi:i < hs.length) → ∃ (b o:Nat) (A:Option Addr) (m c:Nat),a = some ⟨b,o,none⟩ ∧ b < w.heap.size ∧ m ≤ 1048576 ∧ AttrsAt w A m hs[i].ev.ats ∧ (∀ p ∈ hs[i].ev.ats,p.2.length ≤ 1048576) ∧ hs[i].txt.length ≤ 1048576 ∧
  ∀ W,Below w.heap.size w W → W.cell? ⟨b,o + i * 14,none⟩ = some (.int .i64 hs[i].ev.kind) ∧ W.cell? ⟨b,o + i * 14 + 1,none⟩ = some (.int .i64 hs[i].ev.num) ∧ W.cell? ⟨b,o + i * 14 + 2,none⟩ = some (.int .i64 hs[i].ev.dep) ∧ W.cell? ⟨b,o + i * 14 + 3,none⟩ = some (.string (strL hs[i].ev.name)) ∧ W.cell? ⟨b,o + i * 14 + 4,none⟩ = some (.slice A m c) ∧ W.cell? ⟨b,o + i * 14 + 5,none⟩ = some (.string (strL hs[i].ev.text)) ∧ W.cell? ⟨b,o + i * 14 + 6,none⟩ = some (.int .i64 hs[i].ev.fr) ∧ W.cell? ⟨b,o + i * 14 + 7,none⟩ = some (.int .i64 hs[i].ev.tt) ∧ W.cell? ⟨b,o + i * 14 + 8,none⟩ = some (.int .i64 hs[i].kd) ∧ W.cell? ⟨b,o + i * 14 + 9,none⟩ = some (.int .i64 hs[i].par) ∧ W.cell? ⟨b,o + i * 14 + 10,none⟩ = some (.bool hs[i].op) ∧ W.cell? ⟨b,o + i * 14 + 11,none⟩ = some (.string (strL hs[i].txt)) ∧ W.cell? ⟨b,o + i * 14 + 12,none⟩ = some (.int .i64 hs[i].bg) ∧ W.cell? ⟨b,o + i * 14 + 13,none⟩ = some (.int .i64 hs[i].en):=by
 obtain ⟨h1,h2,h3,_,a,c,h4,h5⟩:=h
 refine ⟨a,c,h1,fun W hW=>(hW.cell (p:=⟨hb,1,none⟩) h1).trans h4,fun i hi=>?_⟩
 obtain ⟨b,o,A,m,c,g1,g2,g3,g4,g5,g6,g7,g8⟩:=h5 i hi
 refine ⟨b,o,A,m,c,g1,g2,g4,g5,g6,g7,fun W hW=>?_⟩
 have k:=fun j (hj:j < 14)=>(hW.cell (p:=⟨b,o + i * 14 + j,none⟩) g2).trans (g8 j hj)
 exact ⟨k 0 (by decide),k 1 (by decide),k 2 (by decide),k 3 (by decide),k 4 (by decide),k 5 (by decide),k 6 (by decide),k 7 (by decide),k 8 (by decide),k 9 (by decide),k 10 (by decide),k 11 (by decide),k 12 (by decide),k 13 (by decide)⟩
structure MI (w:World) (k:Nat) (o:Obj) (P n:Nat) (l:List Int) (W:World):Prop where
 old:Below w.heap.size w W
 box:W.heap[k]? = some o
 lo:w.heap.size ≤ P
 ne:k ≠ P
 own:W.ownsRow P 48 1 (.slice (some ⟨P,0,none⟩) n n) n (tsC l)
 len:l.length = n
theorem MI.below {w W W':World} {k P n:Nat} {o:Obj} {l:List Int} (h:MI w k o P n l W) (hb:Below W.heap.size W W'):MI w k o P n l W' :=
 ⟨h.old.trans (hb.mono h.old.size),(hb.block _ (by have:=h.box;exact (Array.getElem?_eq_some_iff.1 this).1)).trans h.box,h.lo,h.ne,own_block h.own fun j hj=>by cases hj;exact hb.block _ (h.own.lt _ rfl).2,h.len⟩
theorem MI.set {w W:World} {k P n:Nat} {o:Obj} {l:List Int} (h:MI w k o P n l W) (i:Nat) (v:Int):MI w k o P n (l.set i v) (W.setCell ⟨P,i,none⟩ (.int .i64 v)) :=
 ⟨h.old.setCell (p:=⟨P,i,none⟩) h.lo _,(Below.heap_setCell _ _ _ _ h.ne).trans h.box,h.lo,h.ne,by rw [← tsC_set];exact (h.own.stored i _).1,by rw [List.length_set];exact h.len⟩
theorem MI.at {w W:World} {k P n:Nat} {o:Obj} {l:List Int} (h:MI w k o P n l W) (i:Nat) (hi:i < n):W.cell? ⟨P,i,none⟩ = some (.int .i64 (l.getD i 0)):=by
 have hl:i < l.length:=by rw [h.len];exact hi
 rw [h.own.cellAt i (by omega),tsC_at l i hl];simp [hl]
theorem MI.ts {w W:World} {k P n:Nat} {o:Obj} {l:List Int} (h:MI w k o P n l W):TsAt W (some ⟨P,0,none⟩) n l :=
 ⟨h.len.symm,fun i hi=>⟨P,0,rfl,(h.own.lt _ rfl).2,by rw [Nat.zero_add,h.own.cellAt i (by have:=h.len;omega),tsC_at l i hi]⟩⟩
theorem MI.frozen {w W:World} {k P n:Nat} {o:Obj} {l:List Int} (h:MI w k o P n l W) (i:Nat):W.frozen? ⟨P,i,none⟩ = false:=h.own.frozenAt i
theorem TsAt.get {w:World} {a:Option Addr} {n:Nat} {l:List Int} (h:TsAt w a n l) (i:Nat) (hi:i < n):∃ b o,a = some ⟨b,o,none⟩ ∧ b < w.heap.size ∧ ∀ W,Below w.heap.size w W → W.cell? ⟨b,o + i,none⟩ = some (.int .i64 (l.getD i 0)):=by
 have hl:i < l.length:=by rw [← h.len];exact hi
 obtain ⟨b,o,e,h1,h2⟩:=h.at' i hl
 exact ⟨b,o,e,h1,fun W hW=>by rw [hW.cell (p:=⟨b,o + i,none⟩) h1,h2];simp [hl]⟩
theorem TsAt.at0 {w:World} {P n:Nat} {l:List Int} (h:TsAt w (some ⟨P,0,none⟩) n l) (i:Nat) (hi:i < n):w.cell? ⟨P,i,none⟩ = some (.int .i64 (l.getD i 0)) ∧ P < w.heap.size:=by
 have hl:i < l.length:=by rw [← h.len];exact hi
 obtain ⟨b,o,e,h1,h2⟩:=h.at' i hl
 cases e
 rw [Nat.zero_add] at h2
 exact ⟨by rw [h2];simp [hl],h1⟩
theorem MI.far {w W:World} {k P n:Nat} {o:Obj} {l:List Int} (h:MI w k o P n l W) {Q:Nat} (hQ:w.heap.size ≤ Q) (hk:k ≠ Q) (hP:P ≠ Q) (i:Nat) (v:Value):MI w k o P n l (W.setCell ⟨Q,i,none⟩ v) :=
 ⟨h.old.setCell (p:=⟨Q,i,none⟩) hQ _,(Below.heap_setCell _ _ _ _ hk).trans h.box,h.lo,h.ne,own_block h.own fun j hj=>by cases hj;exact Below.heap_setCell _ _ _ _ hP,h.len⟩
theorem MI.made {w W W':World} {k n:Nat} {o:Obj} (hold:Below w.heap.size w W) (hbox:W.heap[k]? = some o)
  (hown:W'.ownsRow W.heap.size 48 1 (.slice (some ⟨W.heap.size,0,none⟩) n n) n (madeCells (Value.int .i64 0).cells (n * 1)).toList) (hgr:W.grownBy W' none):MI w k o W.heap.size n (List.replicate n 0) W' ∧ Below W.heap.size W W':=by
 have hb:=(Below.refl W.heap.size W).grown hgr (Nat.le_refl _) (fun k hk=>by cases hk)
 have hk:k < W.heap.size:=(Array.getElem?_eq_some_iff.1 hbox).1
 refine ⟨⟨hold.trans (hb.mono hold.size),(hb.block _ hk).trans hbox,hold.size,by omega,?_,by simp⟩,hb⟩
 rw [Nat.mul_one,show (Value.int .i64 0).cells = #[.int .i64 0] from rfl,tsC_zero] at hown
 exact hown
structure MB (w:World) (k:Nat) (o:Obj) (P0 P1 P2 n:Nat) (h l m:List Int) (W:World):Prop where
 ts:TsAt W (some ⟨P0,0,none⟩) n h
 one:MI w k o P1 n l W
 two:MI w k o P2 n m W
 n01:P0 ≠ P1
 n02:P0 ≠ P2
 n12:P1 ≠ P2
theorem MB.below {w W W':World} {k P0 P1 P2 n:Nat} {o:Obj} {h l m:List Int} (H:MB w k o P0 P1 P2 n h l m W) (hb:Below W.heap.size W W'):MB w k o P0 P1 P2 n h l m W' :=
 ⟨H.ts.below hb,H.one.below hb,H.two.below hb,H.n01,H.n02,H.n12⟩
theorem MB.set1 {w W:World} {k P0 P1 P2 n:Nat} {o:Obj} {h l m:List Int} (H:MB w k o P0 P1 P2 n h l m W) (i:Nat) (v:Int):MB w k o P0 P1 P2 n h (l.set i v) m (W.setCell ⟨P1,i,none⟩ (.int .i64 v)) :=
 ⟨H.ts.far (fun ad e=>by cases e;exact H.n01) _,H.one.set i v,H.two.far H.one.lo H.one.ne (fun e=>H.n12 e.symm) i _,H.n01,H.n02,H.n12⟩
theorem MB.set2 {w W:World} {k P0 P1 P2 n:Nat} {o:Obj} {h l m:List Int} (H:MB w k o P0 P1 P2 n h l m W) (i:Nat) (v:Int):MB w k o P0 P1 P2 n h l (m.set i v) (W.setCell ⟨P2,i,none⟩ (.int .i64 v)) :=
 ⟨H.ts.far (fun ad e=>by cases e;exact H.n02) _,H.one.far H.two.lo H.two.ne H.n12 i _,H.two.set i v,H.n01,H.n02,H.n12⟩
theorem ts_two {W:World} {Q:Nat} {a b:Int} (h:W.heap[Q]? = some (.cells #[.int .i64 a,.int .i64 b] 48 (0,0))):TsAt W (some ⟨Q,0,none⟩) 2 [a,b] :=
 ⟨rfl,fun i hi=>⟨Q,0,rfl,(Array.getElem?_eq_some_iff.1 h).1,by
  rw [cell_heap h]
  match i,hi with
  | 0,_=>rfl
  | 1,_=>rfl⟩⟩
theorem ts_three {W:World} {Q:Nat} {a b c:Int} (h:W.heap[Q]? = some (.cells #[.int .i64 a,.int .i64 b,.int .i64 c] 48 (0,0))):TsAt W (some ⟨Q,0,none⟩) 3 [a,b,c] :=
 ⟨rfl,fun i hi=>⟨Q,0,rfl,(Array.getElem?_eq_some_iff.1 h).1,by
  rw [cell_heap h]
  match i,hi with
  | 0,_=>rfl
  | 1,_=>rfl
  | 2,_=>rfl⟩⟩
theorem infoTru:(Tryz.prog.info? 48).map (fun i=>(i.zero,i.size,i.bytes)) = some (some (.int .i64 0),1,8):=by kernel_rfl
end Go.Proofs.YtgjokdngbocehaaGreatDoor
