/-
  A beginning's nodes: those that half keeps, and those of the answer; plain Lean.
-/
import Derived.Test.YtgjokdngbocehaaGreatDoorHsA
import Derived.Test.YtgjokdngbocehaaGreatDoorHsC
import Derived.Test.YtgjokdngbocehaaGreatDoorHsD
import Derived.Test.YtgjokdngbocehaaGreatDoorHsE
import Derived.Test.YtgjokdngbocehaaGreatDoorHsL
import Derived.Test.YtgjokdngbocehaaGreatDoorHsN
namespace Go.Proofs.YtgjokdngbocehaaGreatDoor
open Go.RowKit
def RbAt (N:Nat) (evs:List Ev) (h:HN) (r:RN):Prop :=
 evs[r.pos]? = some h.ev ∧ h.par = r.par + 1 ∧ h.kd = (if h.ev.kind = 0 then 1 else 2) ∧ (h.ev.kind = 0 ∨ h.ev.kind = 1) ∧ h.txt = r.val ∧ h.bg = r.pos ∧ (h.op = true → r.clo = -1 ∧ h.en = N) ∧ (h.op = false → 0 ≤ r.clo ∧ (h.en:Int) = r.clo + 1) ∧ (h.ev.kind = 1 → h.op = false)
structure RbR (N:Nat) (evs:List Ev) (s:BegS) (hs:List HN) (o:List Nat) (rs:List RN):Prop where
 len:hs.length = rs.length + 1
 opn:o = 0 :: (opnsOf s).map (fun x=>x.toNat + 1)
 bot:∀ x,(opnsOf s).head? = some x → x = 0
 at':∀ (i:Nat) (r:RN),rs[i]? = some r → ∃ h,hs[i + 1]? = some h ∧ RbAt N evs h r
 root:∃ h,hs[0]? = some h ∧ h.txt = (rs.head?.map fun r=>r.val).getD [] ∧ h.op = true ∧ h.kd = 0 ∧ h.par = -1 ∧ h.ev = hRoot.ev
theorem foldl_add_get (t:List UInt8):∀ (o:List Nat) (l:List HN) (j:Nat),o.Nodup → (o.foldl (fun l k=>l.modify k (addT t)) l)[j]? = (l[j]?).map (fun h=>if j ∈ o then addT t h else h)
 | [],l,j,_=>by simp
 | k :: o,l,j,hn=>by
  obtain ⟨h1,h2⟩:=List.nodup_cons.1 hn
  rw [List.foldl_cons,foldl_add_get t o _ j h2,List.getElem?_modify]
  cases hl:l[j]? with
  | none=>simp
  | some x =>
   simp only [Option.map_some]
   by_cases e:k = j
   ·subst e;simp [h1]
   ·have e2:¬ j = k:=fun h=>e h.symm
    simp [e,e2]
theorem opnsOf_open {s:BegS} {e:Ev} (h:e.kind = 0):opnsOf (begNext s e) = opnsOf s ++ [e.num]:=by
 have:(begNext s e).opn = (e.num,e.dep,e.name) :: s.opn:=by unfold begNext;simp [h]
 unfold opnsOf;rw [this];simp
theorem opnsOf_text {s:BegS} {e:Ev} (h:e.kind = 1):opnsOf (begNext s e) = opnsOf s:=by
 have:(begNext s e).opn = s.opn:=by unfold begNext;simp [h]
 unfold opnsOf;rw [this]
theorem opnsOf_close {s:BegS} {e:Ev} {rest:List (Int × Int × List UInt8)} (h:e.kind = 2) (hr:s.opn = (e.num,e.dep,e.name) :: rest):opnsOf s = opnsOf (begNext s e) ++ [e.num]:=by
 have:(begNext s e).opn = rest:=by unfold begNext;simp [h,hr]
 unfold opnsOf;rw [this,hr];simp
theorem topH_of {s:BegS} {o:List Nat} (h:o = 0 :: (opnsOf s).map (fun x=>x.toNat + 1)) (h0:∀ x ∈ s.opn,0 ≤ x.1):(topH o:Int) = topOf s.opn + 1:=by
 subst h
 unfold topH topOf
 cases ho:s.opn with
 | nil=>unfold opnsOf;rw [ho];rfl
 | cons a r =>
  have e:opnsOf s = (r.reverse.map (·.1)) ++ [a.1]:=by unfold opnsOf;rw [ho];simp
  have:=h0 a (by rw [ho];exact List.mem_cons_self)
  rw [e,List.map_append,← List.cons_append]
  simp
  omega
theorem RbR.start (N:Nat) (evs:List Ev):RbR N evs beg0 [hRoot] [0] [] :=
 ⟨rfl,rfl,fun x h=>(by cases h),fun i r h=>by simp at h,hRoot,rfl,rfl,rfl,rfl,rfl,rfl⟩
theorem RbR.step {N k:Nat} {evs:List Ev} {s:BegS} {hs:List HN} {o:List Nat} {rs:List RN} (h:RbR N evs s hs o rs) (hk:k < evs.length) (he:begOk s evs[k] = true) (hn:o.Nodup) (hinv:NdInv (evs.take k) s (nodesB (evs.take k))) (hrl:(rs.length:Int) = s.next) :
  RbR N evs (begNext s evs[k]) (hNext N k (hs,o) evs[k]).1 (hNext N k (hs,o) evs[k]).2 (rnNext s rs evs[k]):=by
 obtain ⟨h1,h2,h3,h4,h5⟩:=h
 have hcnt:s.cnt = k:=by rw [hinv.cnt,List.length_take];omega
 obtain ⟨hnd,hop0,_⟩:=opns_nodup hinv
 have hopn:=hinv.opn
 have htop:=topH_of h2 (fun x hx=>(hopn x hx).1)
 have hek:evs[k]? = some evs[k]:=List.getElem?_eq_getElem hk
 generalize evs[k] = e at *
 by_cases k2:e.kind = 2
 ·have hhd:=begOk_close he k2
  obtain ⟨rest,hr⟩:∃ rest,s.opn = (e.num,e.dep,e.name) :: rest:=by
   cases ho:s.opn with
   | nil=>rw [ho] at hhd;cases hhd
   | cons a r=>rw [ho] at hhd;simp at hhd;exact ⟨r,by rw [hhd]⟩
  have hnum:=hopn _ (by rw [hr];exact List.mem_cons_self)
  simp only at hnum
  have hoc:=opnsOf_close k2 hr
  have ht2:topH o = e.num.toNat + 1:=by
   have:topOf s.opn = e.num:=by unfold topOf;rw [hr];rfl
   omega
  have e1:hNext N k (hs,o) e = (hs.modify (topH o) (endH k),o.dropLast):=by unfold hNext;rw [if_neg (by omega),if_neg (by omega)]
  have e2:rnNext s rs e = rs.modify e.num.toNat (rnClo k):=by unfold rnNext;rw [if_pos k2,hcnt]
  rw [e1,e2]
  refine ⟨by rw [List.length_modify,List.length_modify];exact h1,?_,fun x hx=>?_,fun i r hri=>?_,?_⟩
  ·rw [h2,hoc,List.map_append,← List.cons_append]
   exact List.dropLast_concat
  ·refine h3 x ?_
   rw [hoc,List.head?_append]
   rw [hx];rfl
  ·rw [List.getElem?_modify] at hri
   cases hr0:rs[i]? with
   | none=>rw [hr0] at hri;simp at hri
   | some r0 =>
    rw [hr0] at hri
    obtain ⟨y,g1,g2⟩:=h4 i r0 hr0
    rw [List.getElem?_modify,g1,ht2]
    by_cases e3:e.num.toNat = i
    ·subst e3
     simp at hri
     subst hri
     refine ⟨endH k y,by simp,?_⟩
     obtain ⟨q1,q2,q3,q4,q5,q6,q7,q8,q9⟩:=g2
     exact ⟨q1,q2,q3,q4,q5,q6,fun hh=>absurd hh Bool.false_ne_true,fun _=>⟨by show (0:Int) ≤ (k:Int);omega,by show ((k + 1:Nat):Int) = (k:Int) + 1;omega⟩,fun _=>rfl⟩
    ·simp [e3] at hri
     subst hri
     exact ⟨y,by simp [e3],g2⟩
  ·obtain ⟨y,g1,g2,g3⟩:=h5
   refine ⟨y,by rw [List.getElem?_modify,g1,ht2];simp,?_,g3⟩
   rw [g2,List.head?_eq_getElem?,List.head?_eq_getElem?,List.getElem?_modify]
   cases rs[0]? with
   | none=>rfl
   | some r0 =>
    by_cases e3:e.num.toNat = 0
    ·simp [e3,rnClo]
    ·simp [e3]
 obtain ⟨hnum,h01⟩:=begOk_new he k2
 have hnl:e.num.toNat = rs.length:=by omega
 have hmem:∀ i:Nat,i + 1 ∈ o ↔ (i:Int) ∈ opnsOf s:=by
  intro i
  rw [h2]
  constructor
  ·intro hm
   rcases List.mem_cons.1 hm with hm | hm
   ·omega
   ·obtain ⟨x,hx,hxe⟩:=List.mem_map.1 hm
    have:=(hop0 x hx).1
    have:x = (i:Int):=by omega
    rw [← this];exact hx
  ·intro hm
   exact List.mem_cons_of_mem _ (List.mem_map.2 ⟨_,hm,by simp⟩)
 have hopge:∀ x ∈ opnsOf s,0 ≤ x:=fun x hx=>(hop0 x hx).1
 have hnotlast:¬ ((rs.length:Nat):Int) ∈ opnsOf s:=fun hm=>by
  have:=(hop0 _ hm).2
  have hl:=hinv.nxt
  omega
 have hget:∀ i:Nat,(rnOpens e (opnsOf s) (rs ++ [rnNew s e]))[i]? = ((rs ++ [rnNew s e])[i]?).map (fun r=>if (i:Int) ∈ opnsOf s then rnOpen e r else r):=fun i=>rnOpens_get e _ _ i hopge hnd
 rcases h01 with k0 | k1
 ·have het:e.text = []:=by
   unfold begOk at he
   rw [if_pos k0] at he
   simp only [Bool.and_eq_true,decide_eq_true_eq] at he
   exact he.1.1.2.2.2
  have e1:hNext N k (hs,o) e = (hs ++ [⟨e,1,topH o,true,[],k,N⟩],o ++ [hs.length]):=by unfold hNext;rw [if_pos k0]
  have e2:rnNext s rs e = rnOpens e (opnsOf s) (rs ++ [rnNew s e]):=by unfold rnNext;rw [if_neg k2,if_pos k0]
  rw [e1,e2]
  refine ⟨by rw [rnOpens_length];simp [h1],?_,fun x hx=>?_,fun i r hri=>?_,?_⟩
  ·rw [opnsOf_open k0,List.map_append,← List.cons_append,← h2,h1]
   simp [hnl]
  ·rw [opnsOf_open k0,List.head?_append] at hx
   cases hh:(opnsOf s).head? with
   | some y=>rw [hh] at hx;cases hx;exact h3 _ hh
   | none =>
    rw [hh] at hx
    simp at hx
    have hnil:s.opn = []:=by
     cases ho:s.opn with
     | nil=>rfl
     | cons a r=>unfold opnsOf at hh;rw [ho] at hh;simp at hh
    have hc0:s.cnt = 0:=by
     unfold begOk at he
     rw [if_pos k0] at he
     simp only [Bool.and_eq_true,decide_eq_true_eq] at he
     rcases he.1.1.1 with h0 | h0
     ·exact h0
     ·exact absurd hnil h0
    have:(evs.take k) = []:=List.eq_nil_of_length_eq_zero (by rw [← hinv.cnt];exact hc0)
    have hz:=hinv.nxt
    rw [this] at hz
    have:(nodesB []).length = 0:=rfl
    rw [this] at hz
    omega
  ·rw [hget] at hri
   cases hr0:(rs ++ [rnNew s e])[i]? with
   | none=>rw [hr0] at hri;simp at hri
   | some r0 =>
    rw [hr0] at hri
    simp only [Option.map_some,Option.some.injEq] at hri
    have hsame:r.pos = r0.pos ∧ r.par = r0.par ∧ r.clo = r0.clo ∧ r.val = r0.val:=by
     subst hri
     split
     ·exact ⟨rfl,rfl,rfl,by show r0.val ++ e.text = _;rw [het,List.append_nil]⟩
     ·exact ⟨rfl,rfl,rfl,rfl⟩
    obtain ⟨w1,w2,w3,w4⟩:=hsame
    rcases snoc_get hr0 with ⟨hil,hr0⟩ | ⟨hil,rfl⟩
    ·obtain ⟨y,g1,q1,q2,q3,q4,q5,q6,q7,q8,q9⟩:=h4 i r0 hr0
     exact ⟨y,get_snoc g1,by rw [w1];exact q1,by rw [w2];exact q2,q3,q4,by rw [w4];exact q5,by rw [w1];exact q6,by rw [w3];exact q7,by rw [w3];exact q8,q9⟩
    ·refine ⟨⟨e,1,topH o,true,[],k,N⟩,by rw [hil,← h1];exact get_last hs _,?_⟩
     exact ⟨by rw [w1];show evs[s.cnt]? = some e;rw [hcnt];exact hek,by rw [w2];exact htop,by show (1:Int) = if e.kind = 0 then 1 else 2;rw [if_pos k0],.inl k0,by rw [w4];show [] = e.text;exact het.symm,by rw [w1];exact hcnt.symm,fun _=>⟨by rw [w3];rfl,rfl⟩,fun hh=>absurd hh.symm Bool.false_ne_true,fun hh=>by have:e.kind = 1:=hh;omega⟩
  ·obtain ⟨y,g1,g2,g3⟩:=h5
   refine ⟨y,get_snoc g1,?_,g3⟩
   rw [g2,List.head?_eq_getElem?,List.head?_eq_getElem?,hget]
   cases hr0:rs[0]? with
   | none =>
    have hz:rs = []:=by cases rs with
     | nil=>rfl
     | cons a l=>simp at hr0
    subst hz
    simp only [List.nil_append,List.getElem?_cons_zero,Option.map_some,Option.map_none,Option.getD_none,Option.getD_some]
    split
    ·show [] = e.text ++ e.text;rw [het];rfl
    ·show [] = e.text;rw [het]
   | some r0 =>
    rw [get_snoc hr0]
    simp only [Option.map_some,Option.getD_some]
    split
    ·show r0.val = r0.val ++ e.text;rw [het,List.append_nil]
    ·rfl
 ·have e1:hNext N k (hs,o) e = (o.foldl (fun l k=>l.modify k (addT e.text)) (hs ++ [⟨e,2,topH o,false,e.text,k,k + 1⟩]),o):=by unfold hNext;rw [if_neg (by omega),if_pos k1]
  have e2:rnNext s rs e = (rnOpens e (opnsOf s) (rs ++ [rnNew s e])).modify rs.length (rnClo k):=by unfold rnNext;rw [if_neg k2,if_neg (by omega),hcnt,hnl]
  have hne:s.opn ≠ []:=by
   unfold begOk at he
   rw [if_neg (by omega),if_pos k1] at he
   simp only [Bool.and_eq_true,decide_eq_true_eq] at he
   exact he.1.1.1
  rw [e1,e2]
  have hfg:=fun j=>foldl_add_get e.text o (hs ++ [(⟨e,2,topH o,false,e.text,k,k + 1⟩:HN)]) j hn
  refine ⟨by rw [foldl_modify_len,List.length_modify,rnOpens_length];simp [h1],by rw [opnsOf_text k1];exact h2,by rw [opnsOf_text k1];exact h3,fun i r hri=>?_,?_⟩
  ·rw [List.getElem?_modify,hget] at hri
   rw [hfg]
   cases hr0:(rs ++ [rnNew s e])[i]? with
   | none=>rw [hr0] at hri;simp at hri
   | some r0 =>
    rw [hr0] at hri
    rcases snoc_get hr0 with ⟨hil,hr0⟩ | ⟨hil,rfl⟩
    ·have hni:¬ rs.length = i:=by omega
     simp [hni] at hri
     obtain ⟨y,g1,q1,q2,q3,q4,q5,q6,q7,q8,q9⟩:=h4 i r0 hr0
     rw [get_snoc g1]
     by_cases hm:(i:Int) ∈ opnsOf s
     ·rw [if_pos hm] at hri
      subst hri
      refine ⟨addT e.text y,by simp [(hmem i).2 hm],?_⟩
      exact ⟨q1,q2,q3,q4,by show y.txt ++ e.text = r0.val ++ e.text;rw [q5],q6,q7,q8,q9⟩
     ·rw [if_neg hm] at hri
      subst hri
      have hno:¬ i + 1 ∈ o:=fun hh=>hm ((hmem i).1 hh)
      exact ⟨y,by rw [Option.map_some,if_neg hno],q1,q2,q3,q4,q5,q6,q7,q8,q9⟩
    ·have hnl2:¬ (i:Int) ∈ opnsOf s:=by rw [hil];exact hnotlast
     simp [hil.symm,hnl2] at hri
     have hno:¬ i + 1 ∈ o:=fun hh=>hnl2 ((hmem i).1 hh)
     refine ⟨⟨e,2,topH o,false,e.text,k,k + 1⟩,?_,?_⟩
     ·have:i + 1 = hs.length:=by omega
      rw [this,get_last]
      rw [← this]
      simp [hno]
     ·subst hri
      exact ⟨by show evs[s.cnt]? = some e;rw [hcnt];exact hek,htop,by show (2:Int) = if e.kind = 0 then 1 else 2;rw [if_neg (by omega)],.inr k1,rfl,hcnt.symm,fun hh=>absurd hh Bool.false_ne_true,fun _=>⟨by show (0:Int) ≤ (k:Int);omega,by show ((k + 1:Nat):Int) = (k:Int) + 1;omega⟩,fun _=>rfl⟩
  ·obtain ⟨y,g1,g2,g3⟩:=h5
   refine ⟨addT e.text y,?_,?_,g3⟩
   ·rw [hfg,get_snoc g1]
    have:0 ∈ o:=by rw [h2];exact List.mem_cons_self
    simp [this]
   ·have hz:(0:Int) ∈ opnsOf s:=by
     cases hh:(opnsOf s).head? with
     | none =>
      exfalso
      cases ho:s.opn with
      | nil=>exact hne ho
      | cons a r=>unfold opnsOf at hh;rw [ho] at hh;simp at hh
     | some x =>
      have:=h3 x hh
      subst this
      exact List.mem_of_head? hh
    have hlt:0 < rs.length:=by
     have:=(hop0 0 hz).2
     have hl:=hinv.nxt
     omega
    obtain ⟨r0,hr0⟩:∃ r0,rs[0]? = some r0:=⟨rs[0],List.getElem?_eq_getElem hlt⟩
    have hn0:¬ rs.length = 0:=by omega
    show y.txt ++ e.text = _
    rw [g2,List.head?_eq_getElem?,List.head?_eq_getElem?,List.getElem?_modify,hget,get_snoc hr0,hr0]
    have hz':((0:Nat):Int) ∈ opnsOf s:=hz
    simp only [Option.map_some,Option.getD_some,if_pos hz',if_neg hn0]
    rfl
theorem RbR.all (N:Nat) (evs:List Ev):∀ k,k ≤ evs.length → ∀ s,begAll beg0 (evs.take k) = some s → RbR N evs s (hAll N evs k).1 (hAll N evs k).2 (rnAll beg0 [] (evs.take k)):=by
 intro k
 induction k with
 | zero =>
  intro _ s hs
  rw [List.take_zero] at hs
  obtain rfl:beg0 = s:=Option.some.inj hs
  exact RbR.start N evs
 | succ k ih =>
  intro hk s hs
  have hkl:k < evs.length:=by omega
  have hs2:=hs
  rw [List.take_succ_eq_append_getElem hkl,begAll_snoc] at hs
  cases ht:begAll beg0 (evs.take k) with
  | none=>rw [ht] at hs;cases hs
  | some t =>
   rw [ht] at hs
   simp only [Option.bind_some] at hs
   split at hs
   ·rename_i hok
    obtain rfl:=Option.some.inj hs
    have hinv:=nodesB_inv ht
    have hrl:((rnAll beg0 [] (evs.take k)).length:Int) = t.next:=by rw [(rnAll_spec ht).len];exact hinv.nxt.symm
    have:=(ih (by omega) t ht).step hkl hok (HOk.all N evs k (by omega) t ht).nod hinv hrl
    rw [hAll_succ N evs k hkl,List.take_succ_eq_append_getElem hkl,rnAll_snoc _ _ _ _ ht]
    exact this
   ·cases hs
end Go.Proofs.YtgjokdngbocehaaGreatDoor
namespace Go.Proofs.YtgjokdngbocehaaGreatDoor
open Go.RowKit
structure TsAt (w:World) (a:Option Addr) (n:Nat) (l:List Int):Prop where
 len:n = l.length
 at':∀ i,(h:i < l.length) → ∃ b o,a = some ⟨b,o,none⟩ ∧ b < w.heap.size ∧ w.cell? ⟨b,o + i,none⟩ = some (.int .i64 l[i])
theorem TsAt.below {w w':World} {a:Option Addr} {n:Nat} {l:List Int} (h:TsAt w a n l) (hb:Below w.heap.size w w'):TsAt w' a n l :=
 ⟨h.len,fun i hi=>by
  obtain ⟨b,o,e,hlt,hc⟩:=h.at' i hi
  exact ⟨b,o,e,Nat.lt_of_lt_of_le hlt hb.size,(hb.cell (p:=⟨b,o + i,none⟩) hlt).trans hc⟩⟩
theorem TsAt.far {w:World} {a:Option Addr} {n:Nat} {l:List Int} (h:TsAt w a n l) {P j:Nat} (hne:∀ ad,a = some ad → ad.block ≠ P) (v:Value):TsAt (w.setCell ⟨P,j,none⟩ v) a n l :=
 ⟨h.len,fun i hi=>by
  obtain ⟨b,o,e,hlt,hc⟩:=h.at' i hi
  refine ⟨b,o,e,by rw [show (w.setCell ⟨P,j,none⟩ v).heap.size = w.heap.size by simp [World.setCell]];exact hlt,?_⟩
  rw [← hc]
  unfold World.cell?
  rw [Below.heap_setCell _ _ _ _ (show b ≠ P from hne _ e)]⟩
set_option maxRecDepth 100000 in
set_option maxHeartbeats 1000000 in
theorem good_any (t:Int) (w:World):Calls Tryz.prog 110 #[.int .i64 t] w fun e w'=>e = .returned (.bool (decide (0 ≤ t ∧ t ≤ 2))) ∧ w' = w:=by
 by_cases h0:0 ≤ t
 ·by_cases h2:t ≤ 2
  ·rw [decide_eq_true ⟨h0,h2⟩]
   go_enter Tryz.func110,Tryz.ntmps110
   go_wp2_with fail
   go_ret
   exact ⟨rfl,rfl⟩
  ·rw [decide_eq_false (by omega)]
   have h2':2 < t:=by omega
   clear h2
   go_enter Tryz.func110,Tryz.ntmps110
   go_wp2_with fail
   go_ret
   exact ⟨ret_bool (by simp;omega),rfl⟩
 ·rw [decide_eq_false (by omega)]
  have h0':t < 0:=by omega
  clear h0
  go_enter Tryz.func110,Tryz.ntmps110
  go_wp2_with fail
  go_ret
  exact ⟨rfl,rfl⟩
set_option maxRecDepth 100000 in
set_option maxHeartbeats 1000000 in
theorem seen_any (t:Int) (w:World):Calls Tryz.prog 83 #[.int .i64 t] w fun e w'=>e = .returned (.int .i64 (seenI t)) ∧ w' = w:=by
 have HG:=Lib.hid (good_any t)
 unfold seenI
 by_cases h:0 ≤ t ∧ t ≤ 2
 ·rw [if_pos h]
  rw [decide_eq_true h] at HG
  clear h
  go_enter Tryz.func83,Tryz.ntmps83
  go_wp2_with fail
  (with_reducible refine (HG.out _).mono ?_)
  rintro e w2 ⟨rfl,rfl⟩
  go_wp2_with fail
  go_ret
  exact ⟨rfl,rfl⟩
 ·rw [if_neg h]
  rw [decide_eq_false h] at HG
  clear h
  go_enter Tryz.func83,Tryz.ntmps83
  go_wp2_with fail
  (with_reducible refine (HG.out _).mono ?_)
  rintro e w2 ⟨rfl,rfl⟩
  go_wp2_with fail
  go_ret
  exact ⟨rfl,rfl⟩
set_option maxRecDepth 100000 in
set_option maxHeartbeats 1000000 in
theorem kNot_any (t:Int) (w:World):Calls Tryz.prog 66 #[.int .i64 t] w fun e w'=>e = .returned (.int .i64 (notI t)) ∧ w' = w:=by
 have HG:=Lib.hid (seen_any t)
 have h3:=seenI_3 t
 unfold notI
 generalize seenI t = s at *
 unfold T3 at h3
 have ew:IntKind.i64.wrap (2 - s) = 2 - s:=IntWalk.i64_in _ (by omega)
 go_enter Tryz.func66,Tryz.ntmps66
 go_wp2_with fail
 (with_reducible refine (HG.out _).mono ?_)
 rintro e w2 ⟨rfl,rfl⟩
 go_wp2_with fail
 go_ret
 exact ⟨rfl,rfl⟩
set_option maxRecDepth 100000 in
set_option maxHeartbeats 1000000 in
theorem truth_any (b:Bool) (w:World):Calls Tryz.prog 48 #[.bool b] w fun e w'=>e = .returned (.int .i64 (truthI b)) ∧ w' = w:=by
 cases b with
 | true =>
  go_enter Tryz.func48,Tryz.ntmps48
  go_wp2_with fail
  go_ret
  exact ⟨rfl,rfl⟩
 | false =>
  go_enter Tryz.func48,Tryz.ntmps48
  go_wp2_with fail
  go_ret
  exact ⟨rfl,rfl⟩
set_option maxRecDepth 100000 in
set_option maxHeartbeats 4000000 in
theorem kAnd_any (a:Option Addr) (n c:Nat) (l:List Int) (w:World) (h:TsAt w a n l) (hn:n ≤ 1048576):Calls Tryz.prog 65 #[.slice a n c] w fun e w'=>e = .returned (.int .i64 (andL l)) ∧ w' = w:=by
 have HL:Hid (l.length = n):=Lib.hid h.len.symm
 have H1:=Lib.hid h.at'
 have HS:=Lib.hid seen_any
 obtain ⟨R,hR⟩:∃ R,andL l = R:=⟨_,rfl⟩
 rw [hR]
 have HR:=Lib.hid hR
 clear h hR
 go_enter Tryz.func65,Tryz.ntmps65
 go_wp2_with fail
 go_loopw [3,8] (fun av iv wr=>∃ (i:Nat) (r:Int),iv = .int .i64 i ∧ av = .int .i64 r ∧ i ≤ n ∧ Hid (wr = w) ∧ Hid ((l.drop i).foldl (fun a t=>min a (seenI t)) r = R)) (fun _ iv _=>n - (intOf iv).toNat)
 case atStart=>exact ⟨0,2,rfl,rfl,Nat.zero_le _,(by first | exact Lib.hid rfl | exact Lib.hid trivial),HR⟩
 case round =>
  obtain ⟨i,r,rfl,rfl,hin,HW,HJ⟩:=hrel
  obtain rfl:=HW.out
  by_cases hi:i < n
  ·have i1:(0:Int) ≤ (i:Int):=by omega
   have i2:(i:Int) < (n:Int):=by omega
   have ewi:IntKind.i64.wrap ((i:Int) + 1) = (i:Int) + 1:=IntWalk.i64_in _ (by omega)
   have hil:i < l.length:=by rw [HL.out];exact hi
   obtain ⟨b,o,rfl,_,hc⟩:=H1.out i hil
   have HNX:Hid ((l.drop (i + 1)).foldl (fun a t=>min a (seenI t)) (min r (seenI l[i])) = R):=Lib.hid (by
    have:=HJ.out
    rw [List.drop_eq_getElem_cons hil] at this
    exact this)
   generalize l[i] = t at *
   have HST:=Lib.hid (HS.out t wr)
   generalize seenI t = st at *
   go_wp2_with fail
   (with_reducible refine HST.out.mono ?_)
   rintro e w2 ⟨rfl,rfl⟩
   go_wp2_with fail
   go_roundw
   case rel=>exact ⟨i + 1,_,by go_num,rfl,by omega,(by first | exact Lib.hid rfl | exact Lib.hid trivial),HNX⟩
   case measure=>simp [intOf];omega
  ·have i4:(n:Int) ≤ (i:Int):=by omega
   have HE:Hid (r = R):=Lib.hid (by
    have:=HJ.out
    rw [List.drop_of_length_le (by rw [HL.out];omega)] at this
    exact this)
   go_wp2_with fail
   go_ret
   exact ⟨ret_int HE.out,rfl⟩
set_option maxRecDepth 100000 in
set_option maxHeartbeats 4000000 in
theorem kOr_any (a:Option Addr) (n c:Nat) (l:List Int) (w:World) (h:TsAt w a n l) (hn:n ≤ 1048576):Calls Tryz.prog 49 #[.slice a n c] w fun e w'=>e = .returned (.int .i64 (orL l)) ∧ w' = w:=by
 have HL:Hid (l.length = n):=Lib.hid h.len.symm
 have H1:=Lib.hid h.at'
 have HS:=Lib.hid seen_any
 obtain ⟨R,hR⟩:∃ R,orL l = R:=⟨_,rfl⟩
 rw [hR]
 have HR:=Lib.hid hR
 clear h hR
 go_enter Tryz.func49,Tryz.ntmps49
 go_wp2_with fail
 go_loopw [3,8] (fun av iv wr=>∃ (i:Nat) (r:Int),iv = .int .i64 i ∧ av = .int .i64 r ∧ i ≤ n ∧ Hid (wr = w) ∧ Hid ((l.drop i).foldl (fun a t=>max a (seenI t)) r = R)) (fun _ iv _=>n - (intOf iv).toNat)
 case atStart=>exact ⟨0,0,rfl,rfl,Nat.zero_le _,(by first | exact Lib.hid rfl | exact Lib.hid trivial),HR⟩
 case round =>
  obtain ⟨i,r,rfl,rfl,hin,HW,HJ⟩:=hrel
  obtain rfl:=HW.out
  by_cases hi:i < n
  ·have i1:(0:Int) ≤ (i:Int):=by omega
   have i2:(i:Int) < (n:Int):=by omega
   have ewi:IntKind.i64.wrap ((i:Int) + 1) = (i:Int) + 1:=IntWalk.i64_in _ (by omega)
   have hil:i < l.length:=by rw [HL.out];exact hi
   obtain ⟨b,o,rfl,_,hc⟩:=H1.out i hil
   have HNX:Hid ((l.drop (i + 1)).foldl (fun a t=>max a (seenI t)) (max r (seenI l[i])) = R):=Lib.hid (by
    have:=HJ.out
    rw [List.drop_eq_getElem_cons hil] at this
    exact this)
   generalize l[i] = t at *
   have HST:=Lib.hid (HS.out t wr)
   generalize seenI t = st at *
   go_wp2_with fail
   (with_reducible refine HST.out.mono ?_)
   rintro e w2 ⟨rfl,rfl⟩
   go_wp2_with fail
   go_roundw
   case rel=>exact ⟨i + 1,_,by go_num,rfl,by omega,(by first | exact Lib.hid rfl | exact Lib.hid trivial),HNX⟩
   case measure=>simp [intOf];omega
  ·have i4:(n:Int) ≤ (i:Int):=by omega
   have HE:Hid (r = R):=Lib.hid (by
    have:=HJ.out
    rw [List.drop_of_length_le (by rw [HL.out];omega)] at this
    exact this)
   go_wp2_with fail
   go_ret
   exact ⟨ret_int HE.out,rfl⟩
end Go.Proofs.YtgjokdngbocehaaGreatDoor
namespace Go.Proofs.YtgjokdngbocehaaGreatDoor
open Go.RowKit
set_option maxHeartbeats 400000 in
theorem ordered_any (a0 a1:Option Addr) (n0 c0 n1 c1:Nat) (xs ys:List Int) (w:World)
  (h0:Sl w a0 n0 (xs.map (Value.int .i32))) (h1:Sl w a1 n1 (ys.map (Value.int .i32))) (hm0:n0 ≤ 1048576) :
  Calls Tryz.prog 143 #[.slice a0 n0 c0,.slice a1 n1 c1] w fun e w'=>e = .returned (.int .i64 (cmpL xs ys)) ∧ ∃ n,w' = w.drewN n:=by
 have HX:Hid (n0 = xs.length):=Lib.hid (by have:=h0.len;simpa using this)
 have HY:Hid (n1 = ys.length):=Lib.hid (by have:=h1.len;simpa using this)
 have H0:=Lib.hid h0
 have H1:=Lib.hid h1
 clear h0 h1
 go_enter Tryz.func143,Tryz.ntmps143
 go_wp2
 go_loopw [5] (fun i w'=>∃ k:Nat,k ≤ n0 ∧ k ≤ n1 ∧ i = .int .i64 k ∧ (∃ n,w' = w.drewN n) ∧ Hid (cmpL (xs.drop k) (ys.drop k) = cmpL xs ys)) (fun i _=>n0 - (intOf i).toNat)
 case atStart=>exact ⟨0,Nat.zero_le _,Nat.zero_le _,rfl,⟨0,rfl⟩,rfl⟩
 case round =>
  obtain ⟨k,hk0,hk1,rfl,⟨n,rfl⟩,hr⟩:=hrel
  by_cases hlt:k < n0 ∧ k < n1
  ·obtain ⟨hl0,hl1⟩:=hlt
   have l0:k < xs.length:=by rw [← HX.out];exact hl0
   have l1:k < ys.length:=by rw [← HY.out];exact hl1
   obtain ⟨b0,o0,rfl,_,e0⟩:=H0.out.cell k (by simpa using l0)
   obtain ⟨b1,o1,rfl,_,e1⟩:=H1.out.cell k (by simpa using l1)
   simp only [List.getElem_map] at e0 e1
   have hd:=cmpL_drop xs ys k l0 l1
   rw [hr.out] at hd
   generalize xs[k] = x at e0 hd
   generalize ys[k] = y at e1 hd
   have HD:=Lib.hid hd
   clear hd l0 l1
   have hd0:decide ((k:Int) < n0) = true:=by simp;omega
   have hd1:decide ((k:Int) < n1) = true:=by simp;omega
   go_wp2_with (go_quiet (fail))
   ·have hlt:x < y:=by assumption
    go_ret
    exact ⟨ret_int (by rw [HD.out,if_pos hlt]),_,by simp only [World.drewN_drewN];rfl⟩
   ·have hlt:y < x:=by assumption
    go_ret
    exact ⟨ret_int (by rw [HD.out,if_neg (by omega),if_pos hlt]),_,by simp only [World.drewN_drewN];rfl⟩
   ·go_roundw
    case rel=>exact ⟨k + 1,by omega,by omega,by go_num,⟨_,rfl⟩,by rw [HD.out,if_neg (by omega),if_neg (by omega)];rfl⟩
    case measure=>simp [intOf];omega
  ·have hd:=cmpL_end xs ys k (by rw [← HX.out,← HY.out];exact hlt) (by rw [← HX.out];exact hk0) (by rw [← HY.out];exact hk1)
   rw [hr.out,← HX.out,← HY.out] at hd
   have HD:=Lib.hid hd
   clear hd
   go_wp2
   all_goals (go_ret;refine ⟨ret_int ?_,_,rfl⟩;rw [HD.out];(repeat (first | rw [if_pos (by omega)] | rw [if_neg (by omega)])))
set_option maxHeartbeats 400000 in
theorem Length_any (s:ByteArray) (w:World) (hs:s.size ≤ 1048576) :
  Calls Tryz.prog 122 #[.string s] w fun e w'=>e = .returned (.int .i64 ((runesOf s).length:Int)) ∧ Below w.heap.size w w':=by
 go_enter Tryz.func122,Tryz.ntmps122
 go_wp2
 go_loopw [3] (fun n w'=>∃ (pos k:Nat),w' = w.iter s pos ∧ n = .int .i64 k ∧ Hid (k + (runesAt s pos).length = (runesOf s).length)) (fun _ w'=>s.size - w'.iterPos w.heap.size)
 case atStart=>exact ⟨0,0,rfl,rfl,by rw [runesAt_zero];exact Nat.zero_add _⟩
 case round =>
  obtain ⟨pos,k,rfl,rfl,hr⟩:=hrel
  by_cases hp:pos < s.size
  ·have hnx:∀ ty,(Instr.next (.pointer (some ⟨w.heap.size,0,none⟩)) true ty).run Tryz.prog (w.iter s pos) = _:=fun ty=>run_next_any w s pos ty hp
   have hwd:=width_pos s pos hp
   have hst:=hr.out
   rw [runesAt_step s pos hp,List.length_cons] at hst
   have hkb:k + 1 ≤ s.size:=by have:=runesOf_length s;omega
   have HST:=Lib.hid hst
   clear hst
   go_wp2
   go_roundw
   case rel =>
    refine ⟨pos + (Utf8.decode s pos).2,k + 1,rfl,by go_num,?_⟩
    have:=HST.out
    show _ = _
    omega
   case measure =>
    simp
    omega
  ·have hnx:∀ ty,(Instr.next (.pointer (some ⟨w.heap.size,0,none⟩)) true ty).run Tryz.prog (w.iter s pos) = _:=fun ty=>run_next_end w s pos ty hp
   go_wp2
   go_ret
   refine ⟨ret_int ?_,?_⟩
   ·have:=hr.out
    rw [runesAt_end s pos hp] at this
    rw [← this];simp
   ·exact (Below.refl _ _).alloc (Nat.le_refl _) _
def RetB (e:Ending) (w:World) (xs:List Value):Prop:=∃ g n c,e = .returned (.slice (some ⟨g,0,none⟩) n c) ∧ n ≤ c ∧ Sl w (some ⟨g,0,none⟩) n xs
theorem info_rune:(Tryz.prog.info? 21).map (fun i=>(i.zero,i.size,i.bytes)) = some (some (.int .i32 0),1,4):=by kernel_rfl
set_option maxHeartbeats 400000 in
set_option maxRecDepth 100000 in
theorem runes_box (s:ByteArray) (w:World) (hs:s.size ≤ 1048576) :
  Calls Tryz.prog 144 #[.string s] w fun e w'=>RetB e w' ((runesOf s).map (Value.int .i32)) ∧ Below w.heap.size w w':=by
 obtain ⟨i0,hi,hz0,hz1,hz2⟩:=info_parts info_rune
 go_enter Tryz.func144,Tryz.ntmps144
 go_wp2_with (at_make;refine wpList_make_own _ rfl _ _ 187 rfl w.heap.size 21 i0 (.int .i32 0) 1 Tryz.underlying187 hi hz0 hz1 .i64 .i64 s.size s.size rfl rfl rfl (by rw [hz2];omega) (by unfold maxLen;omega) (Nat.le_refl _) ?_;intro w1 hown1 hgrow1)
 have hb1:Below w.heap.size w w1:=(Below.refl _ _).grown hgrow1 (Nat.le_refl _) (by intro k hk;cases hk)
 have hlt1:=hown1.lt _ rfl
 go_loopw [3] (fun v wr=>∃ (pos n:Nat) (l:List Int),wr.heap[w1.heap.size]? = some (.stringIter s pos) ∧ Below w.heap.size w wr ∧ wr.ownsRow w.heap.size 21 1 v n (l.map (Value.int .i32)) ∧ Hid (v.ownBlock ≠ some w1.heap.size) ∧ Hid (∃ g c,v = .slice (some ⟨g,0,none⟩) n c ∧ n ≤ c) ∧ Hid (l ++ runesAt s pos = runesOf s) ∧ Hid (l.length = n)) (fun _ wr=>s.size - wr.iterPos w1.heap.size)
 case atStart =>
  refine ⟨0,0,[],World.iter_heap _ _ _,hb1.alloc hb1.size _,hown1.alloc _,?_,Lib.hid ⟨_,_,rfl,Nat.zero_le _⟩,?_,rfl⟩
  ·intro hk;injection hk with hk;have:=hlt1.2;simp at hk;omega
  ·show _ = _;rw [runesAt_zero];rfl
 case round =>
  obtain ⟨pos,n,l,hit,hbw,hown,hne,HVS,hr,hln⟩:=hrel
  have hsz:w1.heap.size < wr.heap.size:=(Array.getElem?_eq_some_iff.1 hit).1
  by_cases hp:pos < s.size
  ·have hnx:∀ ty,(Instr.next (.pointer (some ⟨w1.heap.size,0,none⟩)) true ty).run Tryz.prog wr = _:=fun ty=>Lib.run_next_any_at wr w1.heap.size s pos ty hit hp
   have hwd:=width_pos s pos hp
   have hst:=hr.out
   have hll:=hln.out
   rw [runesAt_step s pos hp] at hst
   have hnb:n + 1 ≤ s.size:=by
    have h1:=runesOf_length s
    rw [← hst] at h1
    simp at h1
    omega
   have HST:=Lib.hid hst
   have HIT:=Lib.hid hit
   clear hst hll
   generalize hw2:wr.iterAt w1.heap.size s (pos + (Utf8.decode s pos).2) = w2 at hnx
   have hit2:w2.heap[w1.heap.size]? = some (.stringIter s (pos + (Utf8.decode s pos).2)):=by rw [← hw2];exact Lib.iterAt_heap wr w1.heap.size s pos _ hit
   have hbw2:Below w.heap.size w w2:=by rw [← hw2];exact Lib.below_iterAt hbw (by omega) s _
   have hown2:=own_block (w':=w2) hown (fun k hk=>by rw [← hw2];exact Lib.iterAt_other wr w1.heap.size k s _ (fun e=>hne.out (by rw [hk,e])))
   have hsz2:w2.heap.size = wr.heap.size:=by rw [← hw2,Lib.iterAt_size]
   clear hw2 hit hbw hown
   have hsz3:w1.heap.size < w2.heap.size:=by omega
   have hsz4:w.heap.size ≤ w2.heap.size:=by have:=hb1.size;omega
   clear hsz2
   go_wp2_with (at_builtin;refine wpList_app w2 rfl _ _ 187 (by rfl) w.heap.size 21 i0 (.int .i32 0) 1 4 Tryz.underlying187 hi hz0 hz1 hz2 rfl (by decide) _ n _ (by rfl) hown2 _ rfl 1 [.int .i32 (Utf8.decode s pos).1] (by rfl) rfl (by simp [Value.oneCell']) (by omega) (by decide) hsz4 (fun v3 w3 hown3 happ3=>?_))
   have hbl:=hown2.lt
   have hk3:=happ3.keep (k:=w1.heap.size) (by simp;omega) hne.out
   have hn3:=happ3.ne (k:=w1.heap.size) (by simp;omega) hne.out
   have hb3:=(hbw2.alloc (Nat.le_trans hsz4 (Nat.le_refl _)) (.cells #[.int .i32 (Utf8.decode s pos).1] 21)).trans (happ3.below (by simp;omega) (fun k hk=>(hbl k hk).1))
   go_roundw
   case rel =>
    refine ⟨pos + (Utf8.decode s pos).2,n + 1,l ++ [((Utf8.decode s pos).1:Int)],?_,hb3,by simpa using hown3,hn3,Lib.hid (by obtain ⟨g,c,e1,e2,_⟩:=own_some hown3;exact ⟨g,c,e1,e2⟩),?_,?_⟩
    ·rw [hk3,Below.heap_alloc _ _ _ (by omega)];exact hit2
    ·show _ = _;rw [← HST.out];simp
    ·show _ = _;rw [← hln.out];simp
   case measure =>
    have e1:w3.iterPos w1.heap.size = pos + (Utf8.decode s pos).2:=by
     unfold World.iterPos;rw [hk3,Below.heap_alloc _ _ _ (by omega),hit2]
    have e2:wr.iterPos w1.heap.size = pos:=by unfold World.iterPos;rw [HIT.out]
    rw [e1,e2]
    omega
  ·have hnx:∀ ty,(Instr.next (.pointer (some ⟨w1.heap.size,0,none⟩)) true ty).run Tryz.prog wr = _:=fun ty=>Lib.run_next_end_at wr w1.heap.size s pos ty hit hp
   have hst:=hr.out
   rw [runesAt_end s pos hp,List.append_nil] at hst
   subst hst
   go_wp2
   go_ret
   obtain ⟨a,c,e1,hsl⟩:=own_sl hown
   obtain ⟨g,c',e2,hnc⟩:=HVS.out
   rw [e2] at e1
   cases e1
   exact ⟨⟨g,n,_,e2 ▸ rfl,hnc,hsl⟩,hbw⟩
theorem runes_any (s:ByteArray) (w:World) (hs:s.size ≤ 1048576) :
  Calls Tryz.prog 144 #[.string s] w fun e w'=>RetSl e w' ((runesOf s).map (Value.int .i32)) ∧ Below w.heap.size w w' :=
 (runes_box s w hs).mono fun _ _ ⟨⟨_,n,c,h1,_,h3⟩,hb⟩=>⟨⟨_,n,c,h1,h3⟩,hb⟩
set_option maxHeartbeats 400000 in
theorem Compare_any (s t:ByteArray) (w:World) (hs:s.size ≤ 1048576) (ht:t.size ≤ 1048576) :
  Calls Tryz.prog 118 #[.string s,.string t] w fun e w'=>e = .returned (.int .i64 (cmpL (runesOf s) (runesOf t))) ∧ Below w.heap.size w w':=by
 go_enter Tryz.func118,Tryz.ntmps118
 go_wp2_with fail
 refine (runes_any s _ hs).mono ?_
 rintro e w1 ⟨⟨a,n,c,rfl,h1⟩,b1⟩
 go_wp2_with fail
 refine (runes_any t _ ht).mono ?_
 rintro e w2 ⟨⟨a2,n2,c2,rfl,h2⟩,b2⟩
 have h1':=h1.below b2
 have hn:n ≤ 1048576:=by have:=h1.len;have:=runesOf_length s;simp at *;omega
 go_wp2_with fail
 refine (ordered_any a a2 n c n2 c2 _ _ _ h1' h2 hn).mono ?_
 rintro e w3 ⟨rfl,m,rfl⟩
 go_wp2_with fail
 go_ret
 exact ⟨rfl,Below.drewN (Below.tr b1 b2) m⟩
end Go.Proofs.YtgjokdngbocehaaGreatDoor
namespace Go.Proofs.YtgjokdngbocehaaGreatDoor
open Go.RowKit
def i32s (l:List Int):List Value:=l.map (Value.int .i32)
theorem i32s_len (l:List Int):(i32s l).length = l.length:=by simp [i32s]
theorem Sl.head {w:World} {a:Option Addr} {n:Nat} {xs:List Value} (h:Sl w a n xs) (k:Nat) (hk:k ≤ n):Sl w a k (xs.take k):=by
 have hn:=h.len
 refine ⟨by rw [List.length_take];omega,fun i hi=>?_⟩
 rw [List.length_take] at hi
 obtain ⟨b,o,e,hlt,hc⟩:=h.cell i (by omega)
 exact ⟨b,o,e,hlt,by rw [List.getElem_take];exact hc⟩
theorem Sl.tail {w:World} {b o n:Nat} {xs:List Value} (h:Sl w (some ⟨b,o,none⟩) n xs) (k:Nat) (hk:k ≤ n):Sl w (some ⟨b,o + k,none⟩) (n - k) (xs.drop k):=by
 have hn:=h.len
 refine ⟨by rw [List.length_drop];omega,fun i hi=>?_⟩
 rw [List.length_drop] at hi
 obtain ⟨b',o',e,hlt,hc⟩:=h.cell (k + i) (by omega)
 cases e
 refine ⟨b,o + k,rfl,hlt,?_⟩
 rw [List.getElem_drop,show o + k + i = o + (k + i) by omega];exact hc
theorem i32s_take (l:List Int) (k:Nat):(i32s l).take k = i32s (l.take k):=by simp [i32s,List.map_take]
theorem i32s_drop (l:List Int) (k:Nat):(i32s l).drop k = i32s (l.drop k):=by simp [i32s,List.map_drop]
set_option maxHeartbeats 1000000 in
theorem alike_any (a0 a1:Option Addr) (n0 c0 n1 c1:Nat) (xs ys:List Int) (w:World)
  (h0:Sl w a0 n0 (i32s xs)) (h1:Sl w a1 n1 (i32s ys)) (hm0:n0 ≤ 1048576) :
  Calls Tryz.prog 145 #[.slice a0 n0 c0,.slice a1 n1 c1] w fun e w'=>e = .returned (.bool (decide (xs = ys))) ∧ ∃ n,w' = w.drewN n:=by
 have HX:Hid (n0 = xs.length):=Lib.hid (by have:=h0.len;rw [i32s_len] at this;exact this)
 have HY:Hid (n1 = ys.length):=Lib.hid (by have:=h1.len;rw [i32s_len] at this;exact this)
 have H0:=Lib.hid h0
 have H1:=Lib.hid h1
 clear h0 h1
 by_cases hne:n0 = n1
 rotate_left
 ·have hd:decide (xs = ys) = false:=decide_eq_false fun e=>hne (by rw [HX.out,HY.out,e])
  rw [hd]
  have q:((n0:Int) != n1) = true:=by simp;omega
  have q2:((n0:Int) == n1) = false:=by simp;omega
  clear hd
  go_enter Tryz.func145,Tryz.ntmps145
  go_wp2_with fail
  go_ret
  exact ⟨rfl,0,rfl⟩
 subst hne
 have q:((n0:Int) != n0) = false:=by simp
 have q2:((n0:Int) == n0) = true:=by simp
 go_enter Tryz.func145,Tryz.ntmps145
 go_wp2_with fail
 go_loopw [13] (fun i w'=>∃ k:Nat,k ≤ n0 ∧ i = .int .i64 k ∧ (∃ n,w' = w.drewN n) ∧ Hid (∀ j,j < k → xs[j]? = ys[j]?)) (fun i _=>n0 - (intOf i).toNat)
 case atStart=>exact ⟨0,Nat.zero_le _,rfl,⟨0,rfl⟩,Lib.hid fun j h=>absurd h (Nat.not_lt_zero _)⟩
 case round =>
  obtain ⟨k,hk0,rfl,⟨n,rfl⟩,hr⟩:=hrel
  by_cases hlt:k < n0
  ·have l0:k < xs.length:=by rw [← HX.out];exact hlt
   have l1:k < ys.length:=by rw [← HY.out];exact hlt
   obtain ⟨b0,o0,rfl,_,e0⟩:=H0.out.cell k (by rw [i32s_len];exact l0)
   obtain ⟨b1,o1,rfl,_,e1⟩:=H1.out.cell k (by rw [i32s_len];exact l1)
   simp only [i32s,List.getElem_map] at e0 e1
   have HXK:Hid (xs[k]? = some xs[k]):=Lib.hid (List.getElem?_eq_getElem l0)
   have HYK:Hid (ys[k]? = some ys[k]):=Lib.hid (List.getElem?_eq_getElem l1)
   generalize xs[k] = x at *
   generalize ys[k] = y at *
   by_cases hxy:x = y
   ·subst hxy
    have t1:((x:Int) != x) = false:=by simp
    clear l0 l1
    go_wp2_with (go_quiet (fail))
    go_roundw
    case rel=>exact ⟨k + 1,by omega,by go_num,⟨_,rfl⟩,Lib.hid fun j hj=>by
     rcases Nat.lt_or_ge j k with h | h
     ·exact hr.out j h
     ·rw [show j = k by omega,HXK.out,HYK.out]⟩
    case measure=>simp [intOf];omega
   ·have t1:((x:Int) != y) = true:=by simpa using hxy
    have hd:decide (xs = ys) = false:=decide_eq_false fun e=>by
     have h1:=HXK.out
     rw [e,HYK.out] at h1
     exact hxy (Option.some.inj h1).symm
    have HD:=Lib.hid hd
    clear l0 l1 hd hxy
    go_wp2_with (go_quiet (fail))
    go_ret
    exact ⟨ret_bool HD.out.symm,_,by simp only [World.drewN_drewN];rfl⟩
  ·have hkn:k = n0:=by omega
   subst hkn
   have hd:decide (xs = ys) = true:=decide_eq_true (by
    refine List.ext_getElem? fun j=>?_
    rcases Nat.lt_or_ge j k with h | h
    ·exact hr.out j h
    ·rw [List.getElem?_eq_none (by have:=HX.out;omega),List.getElem?_eq_none (by have:=HY.out;omega)])
   have HD:=Lib.hid hd
   clear hd
   go_wp2_with fail
   go_ret
   exact ⟨ret_bool HD.out.symm,_,rfl⟩
set_option maxHeartbeats 1000000 in
theorem Begins_any (s t:ByteArray) (w:World) (hs:s.size ≤ 1048576) (ht:t.size ≤ 1048576) :
  Calls Tryz.prog 119 #[.string s,.string t] w fun e w'=>e = .returned (.bool (standsL (runesOf s) (runesOf t) 0)) ∧ Below w.heap.size w w':=by
 have HS:=Lib.hid (fun W=>runes_box s W hs)
 have HT:=Lib.hid (fun W=>runes_box t W ht)
 have hls:=runesOf_length s
 have hlt:=runesOf_length t
 generalize runesOf s = xs at *
 generalize runesOf t = ys at *
 obtain ⟨R,hR⟩:∃ R,standsL xs ys 0 = R:=⟨_,rfl⟩
 rw [hR]
 have HR:=Lib.hid hR
 clear hR
 go_enter Tryz.func119,Tryz.ntmps119
 go_wp2_with fail
 (with_reducible refine (HS.out _).mono ?_)
 rintro e w1 ⟨⟨g0,n0,c0,rfl,hc0,h0⟩,b1⟩
 go_wp2_with fail
 (with_reducible refine (HT.out _).mono ?_)
 rintro e w2 ⟨⟨g1,n1,c1,rfl,hc1,h1⟩,b2⟩
 have hx:n0 = xs.length:=by have:=h0.len;simpa using this
 have hy:n1 = ys.length:=by have:=h1.len;simpa using this
 have h0':Sl w2 (some ⟨g0,0,none⟩) n0 (i32s xs):=h0.below b2
 have HB:=Lib.hid (Below.tr b1 b2)
 by_cases hle:n1 ≤ n0
 ·have HAL:Hid (Calls Tryz.prog 145 #[.slice (some ⟨g0,0,none⟩) n1 c0,.slice (some ⟨g1,0,none⟩) n1 c1] w2 fun e w'=>e = .returned (.bool R) ∧ ∃ n,w' = w2.drewN n):=Lib.hid (by
   rw [← HR.out,standsL_seg xs ys 0 (by omega),List.drop_zero]
   have h2:=h0'.head n1 hle
   rw [i32s_take] at h2
   rw [← hy]
   exact alike_any _ _ n1 c0 n1 c1 _ _ w2 h2 h1 (by omega))
  have HLX:=Lib.hid hx
  clear h0 h1 h0' hx hy hls hlt b1 b2
  have i1:n1 ≤ c0:=by omega
  have i3:(n1:Int) ≤ (n0:Int):=by omega
  have i2:(n1:Int) ≤ (c0:Int):=by omega
  go_wp2_with fail
  (with_reducible refine HAL.out.mono ?_)
  rintro e w3 ⟨rfl,m,rfl⟩
  go_wp2_with fail
  go_ret
  exact ⟨rfl,Below.drewN HB.out m⟩
 ·have HF:Hid (R = false):=Lib.hid (by rw [← HR.out];exact standsL_short xs ys 0 (by omega))
  have i3:(n0:Int) < (n1:Int):=by omega
  clear h0 h1 h0' hx hy hls hlt b1 b2 hle
  go_wp2_with fail
  go_ret
  exact ⟨ret_bool HF.out.symm,HB.out⟩
set_option maxHeartbeats 1000000 in
theorem Ends_any (s t:ByteArray) (w:World) (hs:s.size ≤ 1048576) (ht:t.size ≤ 1048576) :
  Calls Tryz.prog 120 #[.string s,.string t] w fun e w'=>e = .returned (.bool (decide ((runesOf t).length ≤ (runesOf s).length) && standsL (runesOf s) (runesOf t) ((runesOf s).length - (runesOf t).length))) ∧ Below w.heap.size w w':=by
 have HS:=Lib.hid (fun W=>runes_box s W hs)
 have HT:=Lib.hid (fun W=>runes_box t W ht)
 have hls:=runesOf_length s
 have hlt:=runesOf_length t
 generalize runesOf s = xs at *
 generalize runesOf t = ys at *
 obtain ⟨R,hR⟩:∃ R,(decide (ys.length ≤ xs.length) && standsL xs ys (xs.length - ys.length)) = R:=⟨_,rfl⟩
 rw [hR]
 have HR:=Lib.hid hR
 clear hR
 go_enter Tryz.func120,Tryz.ntmps120
 go_wp2_with fail
 (with_reducible refine (HS.out _).mono ?_)
 rintro e w1 ⟨⟨g0,n0,c0,rfl,hc0,h0⟩,b1⟩
 go_wp2_with fail
 (with_reducible refine (HT.out _).mono ?_)
 rintro e w2 ⟨⟨g1,n1,c1,rfl,hc1,h1⟩,b2⟩
 have hx:n0 = xs.length:=by have:=h0.len;simpa using this
 have hy:n1 = ys.length:=by have:=h1.len;simpa using this
 have h0':Sl w2 (some ⟨g0,0,none⟩) n0 (i32s xs):=h0.below b2
 have HB:=Lib.hid (Below.tr b1 b2)
 by_cases hle:n1 ≤ n0
 ·have hdl:standsL xs ys (xs.length - ys.length) = R:=by rw [← HR.out,decide_eq_true (show ys.length ≤ xs.length by omega),Bool.true_and]
  have HAL:Hid (∀ (ad:Option Addr) (m c:Nat),m = n1 → (ad = some ⟨g0,n0 - n1,none⟩ ∨ n1 = 0) → Calls Tryz.prog 145 #[.slice ad m c,.slice (some ⟨g1,0,none⟩) n1 c1] w2 fun e w'=>e = .returned (.bool R) ∧ ∃ n,w' = w2.drewN n):=Lib.hid (by
   intro ad m c hm had
   subst hm
   have e1:(xs.drop (xs.length - ys.length)).take ys.length = xs.drop (xs.length - ys.length):=List.take_of_length_le (by rw [List.length_drop];omega)
   rw [← hdl,standsL_seg xs ys (xs.length - ys.length) (by omega),e1]
   rcases had with rfl | had
   ·have h2:=h0'.tail (n0 - m) (by omega)
    rw [i32s_drop,show n0 - (n0 - m) = m by omega,Nat.zero_add] at h2
    rw [← hy,← hx]
    exact alike_any _ _ m c m c1 _ _ w2 h2 h1 (by omega)
   ·subst had
    have e2:xs.drop (xs.length - ys.length) = []:=by rw [← hy,Nat.sub_zero,List.drop_length]
    rw [e2]
    exact alike_any ad _ 0 c 0 c1 [] _ w2 (Sl.nil w2 ad) h1 (by omega))
  have i4:IntKind.i64.wrap ((n0:Int) - (n1:Int)) = ((n0 - n1:Nat):Int):=by rw [IntWalk.i64_in _ (by omega)];omega
  have i6:n0 - (n0 - n1) = n1:=by omega
  have I6:=Lib.hid i6
  clear h0 h1 h0' hx hy hls hlt b1 b2 hdl i6
  have i3:(n1:Int) ≤ (n0:Int):=by omega
  go_wp2_with fail
  all_goals
   first
    | (with_reducible refine (HAL.out _ _ _ I6.out (.inl rfl)).mono ?_)
    | (with_reducible refine (HAL.out _ _ _ I6.out (.inr (by omega))).mono ?_)
   rintro e w3 ⟨rfl,m,rfl⟩
   go_wp2_with fail
   go_ret
   exact ⟨rfl,Below.drewN HB.out m⟩
 ·have HF:Hid (R = false):=Lib.hid (by rw [← HR.out,decide_eq_false (show ¬ ys.length ≤ xs.length by omega),Bool.false_and])
  have i3:(n0:Int) < (n1:Int):=by omega
  clear h0 h1 h0' hx hy hls hlt b1 b2 hle
  go_wp2_with fail
  go_ret
  exact ⟨ret_bool HF.out.symm,HB.out⟩
end Go.Proofs.YtgjokdngbocehaaGreatDoor
