/-
  The plain law: the answer's query is half's way forth.
-/
import Derived.Test.YtgjokdngbocehaaGreatDoorHtA
import Derived.Test.YtgjokdngbocehaaGreatDoorHtD
import Derived.Test.YtgjokdngbocehaaGreatDoorHtE
import Derived.Test.YtgjokdngbocehaaGreatDoorHtF
import Derived.Test.YtgjokdngbocehaaGreatDoorHtG
import Derived.Test.YtgjokdngbocehaaGreatDoorHtI
import Derived.Test.YtgjokdngbocehaaGreatDoorHtJ
import Derived.Test.YtgjokdngbocehaaGreatDoorHtL
import Derived.Test.YtgjokdngbocehaaGreatDoorHtM
import Derived.Test.YtgjokdngbocehaaGreatDoorHtR
import Derived.Test.YtgjokdngbocehaaGreatDoorHtV
import Derived.Test.YtgjokdngbocehaaGreatDoorHtY
import Derived.Test.YtgjokdngbocehaaGreatDoorHtZA
import Derived.Test.YtgjokdngbocehaaGreatDoorHtZC
import Derived.Test.YtgjokdngbocehaaGreatDoorHtZD
import Derived.Test.YtgjokdngbocehaaGreatDoorHtZE
import Derived.Test.YtgjokdngbocehaaGreatDoorHtZG
namespace Go.Proofs.YtgjokdngbocehaaGreatDoor
open Go.RowKit
def qPut (me:List Int) (v:Int) (row:List Int) (u:Int):List Int:=row.set (u + 1).toNat (max (row.getD (u + 1).toNat 0) (min (me.getD (u + 1).toNat 0) v))
def qList (me:List Int) (v:Int) (row l:List Int):List Int:=l.foldl (qPut me v) row
def qRow (me fr:List Int) (n:Nat) (al:Int → List Int) (k:Nat):List Int:=(List.range k).foldl (fun row m=>qList me (fr.getD m 0) row (al ((m:Int) - 1))) (List.replicate n 0)
theorem qList_nil (me:List Int) (v:Int) (row:List Int):qList me v row [] = row:=rfl
theorem qList_snoc (me:List Int) (v:Int) (row l:List Int) (u:Int):qList me v row (l ++ [u]) = qPut me v (qList me v row l) u:=by unfold qList;rw [List.foldl_append];rfl
theorem qRow_zero (me fr:List Int) (n:Nat) (al:Int → List Int):qRow me fr n al 0 = List.replicate n 0:=rfl
theorem qRow_succ (me fr:List Int) (n:Nat) (al:Int → List Int) (k:Nat):qRow me fr n al (k + 1) = qList me (fr.getD k 0) (qRow me fr n al k) (al ((k:Int) - 1)):=by unfold qRow;rw [List.range_succ,List.foldl_append];rfl
theorem qPut_len (me:List Int) (v:Int) (row:List Int) (u:Int):(qPut me v row u).length = row.length:=List.length_set
theorem qList_len (me:List Int) (v:Int) (l:List Int):∀ row:List Int,(qList me v row l).length = row.length:=by
 induction l with
 | nil=>intro row;rfl
 | cons u l ih=>intro row;exact (ih _).trans (qPut_len ..)
theorem qRow_len (me fr:List Int) (n:Nat) (al:Int → List Int) (k:Nat):(qRow me fr n al k).length = n:=by
 induction k with
 | zero=>simp [qRow_zero]
 | succ k ih=>rw [qRow_succ,qList_len,ih]
theorem qList_le (me:List Int) (v c:Int) (k:Nat) (l:List Int):∀ row:List Int,(∀ u ∈ l,(u + 1).toNat < row.length) → ((qList me v row l).getD k 0 ≤ c ↔ row.getD k 0 ≤ c ∧ ∀ u ∈ l,(u + 1).toNat = k → Min.min (me.getD k 0) v ≤ c):=by
 induction l with
 | nil=>intro row _;rw [qList_nil];simp
 | cons u l ih =>
  intro row h
  have hu:=h u List.mem_cons_self
  have e:qList me v row (u :: l) = qList me v (qPut me v row u) l:=rfl
  rw [e,ih _ (fun x hx=>by rw [qPut_len];exact h x (List.mem_cons_of_mem _ hx))]
  unfold qPut
  rw [getD_set _ _ _ _ hu]
  constructor
  ·rintro ⟨h1,h2⟩
   by_cases ek:(u + 1).toNat = k
   ·rw [if_pos ek,Int.max_le,ek] at h1
    refine ⟨h1.1,fun x hx he=>?_⟩
    rcases List.mem_cons.1 hx with rfl | hx
    ·exact h1.2
    ·exact h2 x hx he
   ·rw [if_neg ek] at h1
    refine ⟨h1,fun x hx he=>?_⟩
    rcases List.mem_cons.1 hx with rfl | hx
    ·exact absurd he ek
    ·exact h2 x hx he
  ·rintro ⟨h1,h2⟩
   refine ⟨?_,fun x hx he=>h2 x (List.mem_cons_of_mem _ hx) he⟩
   by_cases ek:(u + 1).toNat = k
   ·rw [if_pos ek,Int.max_le,ek]
    exact ⟨h1,h2 u List.mem_cons_self ek⟩
   ·rw [if_neg ek];exact h1
theorem qRow_le (me fr:List Int) (n:Nat) (al:Int → List Int) (c:Int) (k:Nat) (hk:k < n) (j:Nat) (ha:∀ m,m < j → ∀ u ∈ al ((m:Int) - 1),(u + 1).toNat < n):(qRow me fr n al j).getD k 0 ≤ c ↔ 0 ≤ c ∧ ∀ m,m < j → ∀ u ∈ al ((m:Int) - 1),(u + 1).toNat = k → Min.min (me.getD k 0) (fr.getD m 0) ≤ c:=by
 induction j with
 | zero =>
  rw [qRow_zero,List.getD_eq_getElem?_getD,List.getElem?_replicate,if_pos hk]
  exact ⟨fun h=>⟨h,fun m hm=>by omega⟩,fun h=>h.1⟩
 | succ j ih =>
  rw [qRow_succ,qList_le _ _ _ _ _ _ (fun u hu=>by rw [qRow_len];exact ha j (by omega) u hu),ih fun m hm=>ha m (by omega)]
  constructor
  ·rintro ⟨⟨h1,h2⟩,h3⟩
   refine ⟨h1,fun m hm u hu he=>?_⟩
   by_cases e:m = j
   ·subst e;exact h3 u hu he
   ·exact h2 m (by omega) u hu he
  ·rintro ⟨h1,h2⟩
   exact ⟨⟨h1,fun m hm=>h2 m (by omega)⟩,fun u hu he=>h2 j (by omega) u hu he⟩
section
variable {hs:List HN} {rs:List RN}
def Leads (hs:List HN) (rs:List RN) (ax:Int) (m k:Nat):Prop:=(2 ≤ ax ∧ k = m) ∨ (ax ≠ 3 ∧ m < k ∧ k ≤ lastH rs m ∧ (ax = 0 → parH hs k = m))
theorem leads_iff (h:Lk hs rs) (ax:Int) (ha:0 ≤ ax ∧ ax ≤ 3) (m k:Nat) (hm:m < hs.length):(∃ u ∈ alongR rs.length (lastR rs) (parR rs) ((m:Int) - 1) ax,(u + 1).toNat = k) ↔ Leads hs rs ax m k:=by
 have hl:=h.len
 unfold alongR
 rw [if_neg (by omega),hiH rs m]
 have e0:((m:Int) - 1 + 1).toNat = m:=by omega
 rw [e0]
 unfold Leads
 constructor
 ·rintro ⟨u,hu,rfl⟩
  rcases List.mem_append.1 hu with hu | hu
  ·left
   split at hu
   ·rename_i hx
    have:=List.mem_singleton.1 hu
    subst this
    exact ⟨by omega,e0⟩
   ·cases hu
  ·right
   obtain ⟨h1,h2⟩:=List.mem_filter.1 hu
   obtain ⟨i,rfl,k1,k2⟩:=rngL_mem h1
   have e1:((i:Int) + 1).toNat = i + 1:=by omega
   have hkg:=h.hg m (i + 1) hm (by omega) (by omega)
   rw [e1]
   unfold keepR at h2
   simp at h2
   have hp:=h.par i (by omega)
   have hpl:=h.ax.plt i (by omega)
   refine ⟨?_,by omega,by omega,fun hx=>?_⟩
   ·rcases h2 with (h2 | h2) | h2 <;> omega
   ·rcases h2 with (h2 | h2) | h2 <;> omega
 ·rintro (⟨h1,rfl⟩ | ⟨h1,h2,h3,h4⟩)
  ·refine ⟨(k:Int) - 1,List.mem_append_left _ ?_,e0⟩
   rw [if_pos (by omega)]
   exact List.mem_singleton.2 rfl
  ·obtain ⟨i,rfl⟩:∃ i,k = i + 1:=⟨k - 1,by omega⟩
   have hkg:=h.hg m (i + 1) hm h2 h3
   refine ⟨(i:Int),List.mem_append_right _ (List.mem_filter.2 ⟨?_,?_⟩),by omega⟩
   ·unfold rngL
    exact List.mem_map.2 ⟨i,List.mem_range'_1.2 ⟨by omega,by omega⟩,rfl⟩
   ·unfold keepR
    have hp:=h.par i (by omega)
    have hpl:=h.ax.plt i (by omega)
    have:ax = 0 ∨ ax = 1 ∨ ax = 2:=by omega
    rcases this with rfl | rfl | rfl
    ·have:=h4 rfl
     simp;omega
    ·simp
    ·simp
theorem parI_of {k:Nat} (hk:k < hs.length) (hp:0 ≤ hs[k].par):parI hs k = (parH hs k:Int):=by
 unfold parI parH
 rw [List.getElem?_eq_getElem hk]
 simp only [Option.map_some,Option.getD_some]
 omega
structure Pars (hs:List HN):Prop where
 root:parI hs 0 = -1
 all:∀ k,1 ≤ k → k < hs.length → parI hs k = (parH hs k:Int)
theorem abv_le (h:Lk hs rs) (hp:Pars hs) (led:List Int) (h3:R3 led) (c:Int):∀ k,k < hs.length → ((abvAll hs led (k + 1)).getD k 0 ≤ c ↔ 0 ≤ c ∧ ∀ m,m < k → k ≤ lastH rs m → led.getD m 0 ≤ c):=by
 intro k
 induction k using Nat.strongRecOn with
 | _ k ih =>
  intro hk
  rw [abvAll_at _ _ _ hk]
  unfold abvV
  by_cases h0:k = 0
  ·subst h0
   rw [hp.root,if_neg (by decide)]
   exact ⟨fun h=>⟨h,fun m hm=>by omega⟩,fun h=>h.1⟩
  ·have hpk:=h.parlt k (by omega) hk
   have hcc:=h.hc k (by omega) hk
   rw [hp.all k (by omega) hk,if_pos (by omega),Int.toNat_natCast]
   rw [orL2_le ((abvAll_3 hs led k).at _) (h3.at _)]
   have e:=abvAll_old hs led (parH hs k) (k - 1) (by omega)
   rw [show k - 1 + 1 = k by omega] at e
   rw [e,ih _ hpk (by omega)]
   constructor
   ·rintro ⟨⟨h1,h2⟩,h4⟩
    refine ⟨h1,fun m m1 m2=>?_⟩
    have:=(h.hg m k (by omega) m1 m2).2
    by_cases em:m = parH hs k
    ·rw [em];exact h4
    ·exact h2 m (by omega) (by omega)
   ·rintro ⟨h1,h2⟩
    refine ⟨⟨h1,fun m m1 m2=>?_⟩,h2 _ hpk hcc⟩
    exact h2 m (by omega) (by have:=h.hn m (parH hs k) (by omega) m1 m2;omega)
theorem frT_le (h:Lk hs rs) (hp:Pars hs) (led:List Int) (h3:R3 led) (ax:Int) (ha:0 ≤ ax ∧ ax ≤ 3) (c:Int) (k:Nat) (hk:k < hs.length):frT hs led ax k ≤ c ↔ 0 ≤ c ∧ ∀ m,m < hs.length → Leads hs rs ax m k → led.getD m 0 ≤ c:=by
 have hT:=h3.at k
 unfold T3 at hT
 have habv:=abv_le h hp led h3 c k hk
 unfold frT Leads
 obtain rfl | rfl | rfl | rfl:ax = 0 ∨ ax = 1 ∨ ax = 2 ∨ ax = 3:=by omega
 ·rw [if_pos rfl]
  unfold parV
  by_cases h0:k = 0
  ·subst h0
   rw [hp.root,if_neg (by decide)]
   exact ⟨fun h=>⟨h,fun m _ hm=>by omega⟩,fun h=>h.1⟩
  ·have hpk:=h.parlt k (by omega) hk
   have hcc:=h.hc k (by omega) hk
   rw [hp.all k (by omega) hk,if_pos (by omega),Int.toNat_natCast]
   have h30:=h3.at (parH hs k)
   unfold T3 at h30
   constructor
   ·intro h1
    refine ⟨by omega,fun m _ hm=>?_⟩
    rcases hm with ⟨h2,_⟩ | ⟨_,_,_,h2⟩
    ·omega
    ·rw [← h2 rfl];exact h1
   ·rintro ⟨_,h1⟩
    exact h1 _ (by omega) (.inr ⟨by decide,hpk,hcc,fun _=>rfl⟩)
 ·rw [if_neg (by decide),if_pos rfl,habv]
  exact ⟨fun ⟨h1,h2⟩=>⟨h1,fun m _ hm=>by
   rcases hm with ⟨h4,_⟩ | ⟨_,h5,h6,_⟩
   ·omega
   ·exact h2 m h5 h6⟩,fun ⟨h1,h2⟩=>⟨h1,fun m h5 h6=>h2 m (by omega) (.inr ⟨by decide,h5,h6,fun hh=>by cases hh⟩)⟩⟩
 ·rw [if_neg (by decide),if_neg (by decide),if_pos rfl,orL2_le ((abvAll_3 hs led (k + 1)).at _) (h3.at _),habv]
  constructor
  ·rintro ⟨⟨h1,h2⟩,h4⟩
   refine ⟨h1,fun m _ hm=>?_⟩
   rcases hm with ⟨_,rfl⟩ | ⟨_,h5,h6,_⟩
   ·exact h4
   ·exact h2 m h5 h6
  ·rintro ⟨h1,h2⟩
   exact ⟨⟨h1,fun m h5 h6=>h2 m (by omega) (.inr ⟨by decide,h5,h6,fun hh=>by cases hh⟩)⟩,h2 k hk (.inl ⟨by decide,rfl⟩)⟩
 ·rw [if_neg (by decide),if_neg (by decide),if_neg (by decide)]
  constructor
  ·intro h1
   refine ⟨by omega,fun m _ hm=>?_⟩
   rcases hm with ⟨_,rfl⟩ | ⟨h5,_⟩
   ·exact h1
   ·exact absurd rfl h5
  ·rintro ⟨_,h2⟩
   exact h2 k hk (.inl ⟨by decide,rfl⟩)
theorem frT_3 (led:List Int) (h3:R3 led) (ax:Int) (k:Nat):T3 (frT hs led ax k):=by
 unfold frT parV
 repeat' split
 all_goals first | exact h3.at _ | exact (abvAll_3 hs led _).at _ | exact orL_3 _ | (unfold T3;decide)
theorem query_step (h:Lk hs rs) (hp:Pars hs) (ex:PX → List Int) (s:PS) (led:List Int) (h3:R3 led) (hx:∀ x ∈ s.wher,R3 (ex x)) (ha:0 ≤ s.axis ∧ s.axis ≤ 3):qRow (metT ex hs s (rowOf hs.length fun _=>2)) led hs.length (fun v=>alongR rs.length (lastR rs) (parR rs) v s.axis) hs.length = ledT ex hs led s:=by
 have hf3:R3 (rowOf hs.length (frT hs led s.axis)):=rowOf_3 _ _ fun k=>frT_3 led h3 _ k
 have hm3:R3 (metT ex hs s (rowOf hs.length fun _=>2)):=metT_3 _ _ _ _
 have hll:=h.len
 have hal:∀ m,m < hs.length → ∀ u ∈ alongR rs.length (lastR rs) (parR rs) ((m:Int) - 1) s.axis,(u + 1).toNat < hs.length:=fun m hm u hu=>by
  have:=along_rng h.ax.rng ((m:Int) - 1) s.axis (by omega) u hu
  omega
 have key:∀ k,k < hs.length → (qRow (metT ex hs s (rowOf hs.length fun _=>2)) led hs.length (fun v=>alongR rs.length (lastR rs) (parR rs) v s.axis) hs.length).getD k 0 = (ledT ex hs led s).getD k 0:=by
  intro k hk
  have hmk:=metT_min ex hs s _ hf3 hx k hk s.wher.length (Nat.le_refl _)
  rw [metK_all,met2_all,rowOf_getD _ _ _ hk] at hmk
  unfold ledT
  rw [hmk]
  refine eq_of_le_iff fun c=>?_
  rw [qRow_le _ _ _ _ _ _ hk _ hal]
  have hfl:=frT_le h hp led h3 s.axis ha c k hk
  have ht:=hm3.at k
  unfold T3 at ht
  generalize (metT ex hs s (rowOf hs.length fun _=>2)).getD k 0 = mk at *
  constructor
  ·rintro ⟨h1,h2⟩
   by_cases hc:mk ≤ c
   ·omega
   ·have:=hfl.2 ⟨h1,fun m hm hL=>by
     obtain ⟨u,hu,he⟩:=(leads_iff h s.axis ha m k hm).2 hL
     have:=h2 m hm u hu he
     omega⟩
    omega
  ·intro h1
   have hT:=frT_3 (hs:=hs) led h3 s.axis k
   unfold T3 at hT
   refine ⟨by omega,fun m hm u hu he=>?_⟩
   by_cases hc:mk ≤ c
   ·omega
   ·have:=(hfl.1 (by omega)).2 m hm ((leads_iff h s.axis ha m k hm).1 ⟨u,hu,he⟩)
    omega
 refine List.ext_getElem ?_ fun k h1 h2=>?_
 ·rw [qRow_len];unfold ledT;rw [metT_len]
 ·rw [qRow_len] at h1
  have:=key k h1
  rw [List.getD_eq_getElem?_getD,List.getD_eq_getElem?_getD,List.getElem?_eq_getElem,List.getElem?_eq_getElem h2] at this
  exact this
end
end Go.Proofs.YtgjokdngbocehaaGreatDoor
namespace Go.Proofs.YtgjokdngbocehaaGreatDoor
open Go.RowKit
def askR (hs:List HN) (x:PX) (k:Nat):Int:=(hs[k]?.map fun h=>asksT h x).getD 0
theorem askR_3 (hs:List HN) (x:PX) (k:Nat):T3 (askR hs x k):=by
 unfold askR
 cases hs[k]? with
 | none=>show T3 0;unfold T3;decide
 | some h=>exact asksT_3 h x
theorem pathK_3 (ex:PX → List Int) (hs:List HN) (hp:1 ≤ hs.length) (x:PX):∀ d j,j + d = x.path.length → R3 (pathK ex hs x j):=by
 intro d
 cases d with
 | zero=>intro j hj;rw [show j = x.path.length by omega,pathK_end];exact rowOf_3 _ _ (askR_3 hs x)
 | succ d=>intro j hj;rw [pathK_step _ _ _ _ (by omega)];exact (backT_ok ex hs hp _ _).1
set_option maxRecDepth 100000 in
set_option maxHeartbeats 8000000 in
theorem expr15Some_any {an:Option Addr} {cn:Nat} {clo:Bool} {evs:List Ev} {hs:List HN} {rs:List RN} {f:Nat} (HX:ExR an cn clo evs hs rs f) (x:PX) (aa:Option Addr) (ac:Nat) (pa:Option Addr) (pc:Nat) (w:World) (h:RD w an clo evs hs rs) (hk:Lk hs rs) (hlr:∀ i r,rs[i]? = some r → ((lastR rs i:Nat):Int) = r.last) (hp:SsAt f w pa x.path) (hpl:x.path.length ≤ 1048576) (htx:x.text.length ≤ 1048576) (hg:goodPB (goodXB f) x.path = true) (hop:x.op = 3) :
  Calls Tryz.prog 36 #[.agg #[.slice an rs.length cn,.bool clo],.agg (exprC x aa ac pa pc).toArray] w fun e w'=>∃ P,e = .returned (.slice (some ⟨P,0,none⟩) hs.length hs.length) ∧ w.heap.size ≤ P ∧ TsAt w' (some ⟨P,0,none⟩) hs.length (exprT hs (f + 1) x) ∧ Below w.heap.size w w':=by
 obtain ⟨i0,hi,hz0,hz1,hz2⟩:=info_parts infoInt
 obtain ⟨q,hq⟩:∃ q,x.path.length = q:=⟨_,rfl⟩
 have hXV:(exprC x aa ac pa pc).toArray = #[.int .i64 3,.slice aa x.args.length ac,.slice pa q pc,.string (strL x.attr),.int .i64 x.cmp,.string (strL x.text),.int .i64 x.num]:=by unfold exprC;rw [hop,hq]
 rw [hXV]
 obtain ⟨L,hL⟩:∃ L,rs.length = L:=⟨_,rfl⟩
 obtain ⟨N,hN⟩:∃ N,hs.length = N:=⟨_,rfl⟩
 have hNL:N = L + 1:=by rw [← hL,← hN];exact h.len
 have hcap:L ≤ 400:=by rw [← hL];exact h.cap
 obtain ⟨W0,hW0⟩:∃ W0,W0 = (w.alloc (.cells #[.slice an L cn,.bool clo] 90)).alloc (.cells #[.int .i64 3,.slice aa x.args.length ac,.slice pa q pc,.string (strL x.attr),.int .i64 x.cmp,.string (strL x.text),.int .i64 x.num] 42):=⟨_,rfl⟩
 have hb0:Below w.heap.size w W0:=by rw [hW0];exact ((Below.refl w.heap.size w).alloc (Nat.le_refl _) _).alloc (by simp) _
 have hsz0:W0.heap.size = w.heap.size + 2:=by rw [hW0];simp
 have hk0:W0.heap[w.heap.size]? = some (.cells #[.slice an L cn,.bool clo] 90 (0,0)):=by
  rw [hW0,Below.heap_alloc _ _ _ (by simp)];exact heap_alloc_new w _
 have hk1:W0.heap[w.heap.size + 1]? = some (.cells #[.int .i64 3,.slice aa x.args.length ac,.slice pa q pc,.string (strL x.attr),.int .i64 x.cmp,.string (strL x.text),.int .i64 x.num] 42 (0,0)):=by
  rw [hW0];exact alloc_atR _ _ (by simp)
 have HKS:Hid (∀ W,Below W0.heap.size W0 W → W.cell? ⟨w.heap.size,0,none⟩ = some (.slice an L cn) ∧ W.cell? ⟨w.heap.size,1,none⟩ = some (.bool clo) ∧ W.cell? ⟨w.heap.size + 1,0,none⟩ = some (.int .i64 3) ∧ W.cell? ⟨w.heap.size + 1,1,none⟩ = some (.slice aa x.args.length ac) ∧ W.cell? ⟨w.heap.size + 1,2,none⟩ = some (.slice pa q pc) ∧ W.cell? ⟨w.heap.size + 1,3,none⟩ = some (.string (strL x.attr)) ∧ W.cell? ⟨w.heap.size + 1,4,none⟩ = some (.int .i64 x.cmp) ∧ W.cell? ⟨w.heap.size + 1,5,none⟩ = some (.string (strL x.text)) ∧ W.cell? ⟨w.heap.size + 1,6,none⟩ = some (.int .i64 x.num)):=Lib.hid fun W hW=>by
  have g0:=(hW.block w.heap.size (by omega)).trans hk0
  have g1:=(hW.block (w.heap.size + 1) (by omega)).trans hk1
  exact ⟨by rw [cell_heap g0];rfl,by rw [cell_heap g0];rfl,by rw [cell_heap g1];rfl,by rw [cell_heap g1];rfl,by rw [cell_heap g1];rfl,by rw [cell_heap g1];rfl,by rw [cell_heap g1];rfl,by rw [cell_heap g1];rfl,by rw [cell_heap g1];rfl⟩
 have FIN:Hid (∀ W,Below W0.heap.size W0 W → Below w.heap.size w W ∧ w.heap.size ≤ W0.heap.size):=Lib.hid fun W hW=>⟨hb0.trans (hW.mono hb0.size),hb0.size⟩
 have HCO:Hid (∀ (k:Nat) (J:Int) W,k < N → J + 1 = (k:Int) → Below W0.heap.size W0 W → Calls Tryz.prog 67 #[.agg #[.slice an L cn,.bool clo],.int .i64 J,.agg #[.int .i64 3,.slice aa x.args.length ac,.slice pa q pc,.string (strL x.attr),.int .i64 x.cmp,.string (strL x.text),.int .i64 x.num]] W fun e w'=>e = .returned (.int .i64 (askR hs x k)) ∧ Below W.heap.size W w'):=Lib.hid fun k J W hk hJ hW=>by
  obtain ⟨y,hy⟩:=h.get k (by omega)
  have hjk:(J + 1).toNat = k:=by omega
  have hc:=comp15_any (cn:=cn) J y x aa ac pa pc W (h.below (FIN.out W hW).1) (by omega) (by rw [hjk];exact hy) htx
  rw [hXV,hL] at hc
  have e:askR hs x k = asksT y x:=by unfold askR;rw [hy];rfl
  rw [e];exact hc
 have HST:Hid (∀ j (hj:j < x.path.length) wa wn Q W,Below W0.heap.size W0 W → XsAt f W wa x.path[j].wher → x.path[j].wher.length ≤ 1048576 → TsAt W (some ⟨Q,0,none⟩) N (pathK (exprT hs f) hs x (j + 1)) → Calls Tryz.prog 68 #[.agg #[.slice an L cn,.bool clo],.agg #[.int .i64 x.path[j].axis,.int .i64 x.path[j].test,.string (strL x.path[j].name),.slice wa x.path[j].wher.length wn],.slice (some ⟨Q,0,none⟩) N N] W fun e w'=>∃ P2,e = .returned (.slice (some ⟨P2,0,none⟩) N N) ∧ W.heap.size ≤ P2 ∧ TsAt w' (some ⟨P2,0,none⟩) N (pathK (exprT hs f) hs x j) ∧ Below W.heap.size W w'):=Lib.hid fun j hj wa wn Q W hW g1 g2 g3=>by
  have hgs:=goodPB_at hg j hj
  have hgw:x.path[j].wher.all (goodXB f) = true:=List.all_eq_true.2 fun y hy=>by
   obtain ⟨i,hi,rfl⟩:=List.getElem_of_mem hy
   exact goodSB_at hgs i hi
  have hgb:(0 ≤ x.path[j].test ∧ x.path[j].test ≤ 3) ∧ (0 ≤ x.path[j].axis ∧ x.path[j].axis ≤ 3):=by
   unfold goodSB at hgs
   simp only [Bool.and_eq_true,decide_eq_true_eq] at hgs
   obtain ⟨⟨⟨⟨⟨q1,q2⟩,q3⟩,q4⟩,_⟩,_⟩:=hgs
   exact ⟨⟨q3,q4⟩,q1,q2⟩
  have hp1:1 ≤ hs.length:=by omega
  have hst:=step15_any (cn:=cn) HX x.path[j] wa wn (some ⟨Q,0,none⟩) N (pathK (exprT hs f) hs x (j + 1)) W (h.below (FIN.out W hW).1) hk.ax hlr g1 g2 hgw hgb.1 hgb.2 (by rw [hN];exact g3)
  have hx3:∀ z ∈ x.path[j].wher,R3 (exprT hs f z):=fun z hz=>by
   have hgz:=List.all_eq_true.1 hgw z hz
   cases f with
   | zero=>cases hgz
   | succ f=>exact (exprT_ok hs hp1 f z).1
  rw [step_back hk (exprT hs f) x.path[j] (pathK (exprT hs f) hs x (j + 1)) (pathK_3 _ hs hp1 x (x.path.length - (j + 1)) (j + 1) (by omega)) hx3 hgb.2,← pathK_step _ _ _ j hj] at hst
  unfold stepC at hst
  rw [hN,hL] at hst
  exact hst
 have HP0:Hid (pathK (exprT hs f) hs x 0 = exprT hs (f + 1) x):=Lib.hid (pathK_all hs f x hop)
 have HPE:Hid (pathK (exprT hs f) hs x q = rowOf N (askR hs x)):=Lib.hid (by rw [← hq,pathK_end,hN];rfl)
 have HSS:Hid (∀ W,Below W0.heap.size W0 W → SsAt f W pa x.path):=Lib.hid fun W hW=>SsAt.below hp (FIN.out W hW).1
 obtain ⟨R,hR⟩:∃ R,exprT hs (f + 1) x = R:=⟨_,rfl⟩
 rw [hR] at HP0
 rw [hR,hN,hL]
 have HMK:Hid (∀ w1,w1.ownsRow ((w.alloc (.cells #[.slice an L cn,.bool clo] 90)).alloc (.cells #[.int .i64 3,.slice aa x.args.length ac,.slice pa q pc,.string (strL x.attr),.int .i64 x.cmp,.string (strL x.text),.int .i64 x.num] 42)).heap.size 3 1 (.slice (some ⟨((w.alloc (.cells #[.slice an L cn,.bool clo] 90)).alloc (.cells #[.int .i64 3,.slice aa x.args.length ac,.slice pa q pc,.string (strL x.attr),.int .i64 x.cmp,.string (strL x.text),.int .i64 x.num] 42)).heap.size,0,none⟩) N N) N (madeCells (Value.int .i64 0).cells (N * 1)).toList → ((w.alloc (.cells #[.slice an L cn,.bool clo] 90)).alloc (.cells #[.int .i64 3,.slice aa x.args.length ac,.slice pa q pc,.string (strL x.attr),.int .i64 x.cmp,.string (strL x.text),.int .i64 x.num] 42)).grownBy w1 none → MJ W0 (w.heap.size + 1 + 1) N (List.replicate N 0) w1):=Lib.hid (by
  rw [← hW0]
  intro w1 hown hgr
  have:=MJ.made (w:=W0) (Below.refl _ _) hown hgr
  rw [hsz0] at this
  exact this)
 have HW0:=Lib.hid hW0
 have HQ:=Lib.hid hq
 have HNI:Hid ((L:Int) + 1 = (N:Int)):=Lib.hid (by omega)
 have HNL:=Lib.hid hNL
 have hNb:N ≤ 401:=by omega
 have hN1:1 ≤ N:=by omega
 have hqb:q ≤ 1048576:=by rw [← hq];exact hpl
 clear hR hb0 hsz0 hk0 hk1 hW0 h hk hlr hp hpl htx hg hop HX hL hN hNL hXV hq
 go_enter Tryz.func36,Tryz.ntmps36
 go_wp2_with (at_make;go_must ((refine wpList_make_full ((w.alloc (.cells #[.slice an L cn,.bool clo] 90)).alloc (.cells #[.int .i64 3,.slice aa x.args.length ac,.slice pa q pc,.string (strL x.attr),.int .i64 x.cmp,.string (strL x.text),.int .i64 x.num] 42)) (by rfl) _ _ 66 (by rfl) ((w.alloc (.cells #[.slice an L cn,.bool clo] 90)).alloc (.cells #[.int .i64 3,.slice aa x.args.length ac,.slice pa q pc,.string (strL x.attr),.int .i64 x.cmp,.string (strL x.text),.int .i64 x.num] 42)).heap.size 3 i0 _ 1 Tryz.underlying66 hi hz0 hz1 .i64 .i64 ((L:Int) + 1) ((L:Int) + 1) N (by rfl) (by rfl) HNI.out HNI.out (by rw [hz2];omega) (by unfold maxLen;omega) (Nat.le_refl _) (fun w1 hown hgr=>?_));have HMJ:=Lib.hid (HMK.out w1 hown hgr);have hbm:=HMJ.out.old;have hx0:=(HKS.out w1 hbm).2.2.1))
 clear hown hgr HMK
 generalize w.heap.size + 1 + 1 = P at *
 have HB00:Hid (w.heap.size ≤ P):=Lib.hid (by have:=HMJ.out.lo;have:=(FIN.out W0 (Below.refl _ _)).2;omega)
 go_loopw [6] (fun iv wr=>∃ (k:Nat) (J:Int),iv = .int .i64 J ∧ J + 1 = (k:Int) ∧ k ≤ N ∧ Hid (MJ W0 P N (mixR N k (askR hs x) (fun _=>0)) wr)) (fun iv _=>N - (intOf iv + 1).toNat)
 case atStart=>exact ⟨0,-1,rfl,rfl,Nat.zero_le _,Lib.hid (by rw [← rep_mix];exact HMJ.out)⟩
 case round =>
  obtain ⟨k,J,rfl,hJ,hk,HM⟩:=hrel
  obtain ⟨p0,p1,p2,p3,p4,p5,p6,p7,p8⟩:=HKS.out wr HM.out.old
  by_cases hkn:k < N
  ·have hm1:=HCO.out k J wr hkn hJ HM.out.old
   have HM1:=Lib.hid hm1
   have HNX:Hid (∀ W,Below wr.heap.size wr W → MJ W0 P N (mixR N (k + 1) (askR hs x) (fun _=>0)) (W.setCell ⟨P,k,none⟩ (.int .i64 (askR hs x k))) ∧ (∃ v,W.cell? ⟨P,k,none⟩ = some (.int .i64 v)) ∧ W.frozen? ⟨P,k,none⟩ = false ∧ P < W.heap.size):=Lib.hid fun W hW=>by
    have h1:=HM.out.below hW
    have h2:=h1.set k (askR hs x k)
    rw [mixR_set _ _ _ _ _ rfl] at h2
    exact ⟨h2,⟨_,h1.at k hkn⟩,h1.frozen k,h1.lt⟩
   have HJ0:=Lib.hid hJ
   have ewj:IntKind.i64.wrap (J + 1) = (k:Int):=by rw [IntWalk.i64_in _ (by omega)];omega
   have hjl:J < (L:Int):=by have:=HNL.out;omega
   have i1:(0:Int) ≤ (k:Int):=by omega
   have i2:(k:Int) < (N:Int):=by omega
   clear hm1 hJ
   go_wp2_with fail
   (with_reducible refine HM1.out.mono ?_)
   rintro e w2 ⟨rfl,hb2⟩
   obtain ⟨hx1,⟨vv,hx2⟩,hx3,hx4⟩:=HNX.out w2 hb2
   have HX1:=Lib.hid hx1
   clear hx1 hb2
   generalize askR hs x k = av at *
   go_wp2_with fail
   go_roundw
   case rel=>exact ⟨k + 1,(k:Int),by first | rfl | go_num,by omega,by omega,HX1⟩
   case measure=>have:=HJ0.out;simp [intOf];omega
  ·have hk2:k = N:=by omega
   have HM2:Hid (Below W0.heap.size W0 wr ∧ w.heap.size ≤ P ∧ TsAt wr (some ⟨P,0,none⟩) N (pathK (exprT hs f) hs x q)):=Lib.hid ⟨HM.out.old,HB00.out,by have:=HM.out.ts;rw [hk2,mixR_all] at this;rw [HPE.out];exact this⟩
   have hjl:(L:Int) ≤ J:=by have:=HNL.out;omega
   have ewq:IntKind.i64.wrap ((q:Int) - 1) = (q:Int) - 1:=IntWalk.i64_in _ (by omega)
   clear HM hJ
   go_wp2_with fail
   go_loopw [5,7] (fun ov iv wr=>∃ (j Q:Nat) (J:Int),ov = .slice (some ⟨Q,0,none⟩) N N ∧ iv = .int .i64 J ∧ J + 1 = (j:Int) ∧ j ≤ q ∧ Hid (Below W0.heap.size W0 wr ∧ w.heap.size ≤ Q ∧ TsAt wr (some ⟨Q,0,none⟩) N (pathK (exprT hs f) hs x j))) (fun _ iv _=>(intOf iv + 1).toNat)
   case atStart=>exact ⟨q,P,(q:Int) - 1,rfl,rfl,by omega,Nat.le_refl _,HM2⟩
   case round =>
    obtain ⟨j,Q,J,rfl,rfl,hJ,hjq,HJ⟩:=hrel
    obtain ⟨p0,p1,p2,p3,p4,p5,p6,p7,p8⟩:=HKS.out wr HJ.out.1
    by_cases hj0:0 < j
    ·obtain ⟨i,rfl⟩:∃ i,j = i + 1:=⟨j - 1,by omega⟩
     obtain rfl:J = (i:Int):=by omega
     have hiq:i < x.path.length:=by rw [HQ.out];omega
     obtain ⟨b,o,wa,wn,rfl,hbl,hst,hcs⟩:=(HSS.out wr HJ.out.1).get' i hiq
     obtain ⟨s0,s1,s2,s3⟩:=hcs wr (Below.refl _ _)
     have HB:Hid (Calls Tryz.prog 68 #[.agg #[.slice an L cn,.bool clo],.agg #[.int .i64 x.path[i].axis,.int .i64 x.path[i].test,.string (strL x.path[i].name),.slice wa x.path[i].wher.length wn],.slice (some ⟨Q,0,none⟩) N N] wr.drew fun e w'=>∃ P2,e = .returned (.slice (some ⟨P2,0,none⟩) N N) ∧ wr.heap.size ≤ P2 ∧ TsAt w' (some ⟨P2,0,none⟩) N (pathK (exprT hs f) hs x i) ∧ Below wr.heap.size wr w'):=Lib.hid (by
      obtain ⟨a',c',hcc,_,_,_,_,hwn,hxs⟩:=hst
      have hca:wa = a' ∧ wn = c':=by unfold stepC at hcc;simp at hcc;exact hcc
      obtain ⟨rfl,rfl⟩:=hca
      have hd:Below wr.heap.size wr wr.drew:=(Below.refl wr.heap.size wr).drew
      have hbd:Below W0.heap.size W0 wr.drew:=HJ.out.1.trans (hd.mono HJ.out.1.size)
      have hx':XsAt f wr.drew wa x.path[i].wher:=XsAt.below hxs hd
      have hT':TsAt wr.drew (some ⟨Q,0,none⟩) N (pathK (exprT hs f) hs x (i + 1)):=HJ.out.2.2.below hd
      have h9:=HST.out i hiq wa wn Q wr.drew hbd hx' hwn hT'
      exact h9.mono fun e w' ⟨P2,g1,g2,g3,g4⟩=>⟨P2,g1,g2,g3,hd.trans (g4.mono (Nat.le_refl _))⟩)
     have HJ0:Hid (Below W0.heap.size W0 wr ∧ w.heap.size ≤ wr.heap.size):=Lib.hid ⟨HJ.out.1,(FIN.out wr HJ.out.1).1.size⟩
     have ewi:IntKind.i64.wrap ((i:Int) - 1) = (i:Int) - 1:=IntWalk.i64_in _ (by omega)
     have k1:(0:Int) ≤ (i:Int):=by omega
     have k2:(i:Int) < (q:Int):=by omega
     clear hst hcs hbl HJ hJ
     generalize x.path[i]'hiq = s at *
     go_wp2_with fail
     go_region_with (first | (go_at_call 68;(with_reducible refine HB.out.mono ?_);rintro e w6 ⟨P2,rfl,hP2,hT2,hb6⟩;have HC6:Hid (Below W0.heap.size W0 w6 ∧ w.heap.size ≤ P2 ∧ TsAt w6 (some ⟨P2,0,none⟩) N (pathK (exprT hs f) hs x i)):=Lib.hid ⟨HJ0.out.1.trans (hb6.mono HJ0.out.1.size),by have:=HJ0.out.2;omega,hT2⟩;clear hP2 hT2 hb6))
     all_goals
      go_wp2_with fail
      go_roundw
      case rel=>exact ⟨i,P2,(i:Int) - 1,rfl,rfl,by omega,by omega,HC6⟩
      case measure=>first | (simp [intOf];done) | (simp [intOf];omega)
    ·have hj2:j = 0:=by omega
     subst hj2
     have HF:Hid (TsAt wr (some ⟨Q,0,none⟩) N R ∧ Below w.heap.size w wr ∧ w.heap.size ≤ Q):=Lib.hid ⟨by have:=HJ.out.2.2;rw [HP0.out] at this;exact this,(FIN.out wr HJ.out.1).1,HJ.out.2.1⟩
     have hz:J < 0:=by omega
     clear HJ hJ
     go_wp2_with fail
     go_ret
     exact ⟨Q,rfl,HF.out.2.2,HF.out.1,HF.out.2.1⟩
end Go.Proofs.YtgjokdngbocehaaGreatDoor
