/-
  The plain law: the answer's query is half's way forth.
-/
import Derived.Test.YtgjokdngbocehaaGreatDoorHsA
import Derived.Test.YtgjokdngbocehaaGreatDoorHsC
import Derived.Test.YtgjokdngbocehaaGreatDoorHsD
import Derived.Test.YtgjokdngbocehaaGreatDoorHsE
import Derived.Test.YtgjokdngbocehaaGreatDoorHsL
import Derived.Test.YtgjokdngbocehaaGreatDoorHsN
import Derived.Test.YtgjokdngbocehaaGreatDoorHsQ
import Derived.Test.YtgjokdngbocehaaGreatDoorHsR
import Derived.Test.YtgjokdngbocehaaGreatDoorHsS
import Derived.Test.YtgjokdngbocehaaGreatDoorHsT
import Derived.Test.YtgjokdngbocehaaGreatDoorHsV
namespace Go.Proofs.YtgjokdngbocehaaGreatDoor
open Go.RowKit
section
variable {hs:List HN} {rs:List RN}
def Leads (hs:List HN) (rs:List RN) (ax:Int) (m k:Nat):Prop:=(2 ≤ ax ∧ k = m) ∨ (ax ≠ 3 ∧ m < k ∧ k ≤ lastH rs m ∧ (ax = 0 → parH hs k = m))
theorem parI_of {k:Nat} (hk:k < hs.length) (hp:0 ≤ hs[k].par):parI hs k = (parH hs k:Int):=by
 unfold parI parH
 rw [List.getElem?_eq_getElem hk]
 simp only [Option.map_some,Option.getD_some]
 omega
structure Pars (hs:List HN):Prop where
 root:parI hs 0 = -1
 all:∀ k,1 ≤ k → k < hs.length → parI hs k = (parH hs k:Int)
theorem abv_le (h:Lk hs rs) (hp:Pars hs) (led:List Int) (h3:R3 led) (c:Int):∀ k,k < hs.length → ((abvAll hs led (k + 1)).getD k 0 ≤ c ↔ 0 ≤ c ∧ ∀ m,m < k → k ≤ lastH rs m → led.getD m 0 ≤ c):=by
 intro k
 induction k using Nat.strongRecOn with
 | _ k ih =>
  intro hk
  rw [abvAll_at _ _ _ hk]
  unfold abvV
  by_cases h0:k = 0
  ·subst h0
   rw [hp.root,if_neg (by decide)]
   exact ⟨fun h=>⟨h,fun m hm=>by omega⟩,fun h=>h.1⟩
  ·have hpk:=h.parlt k (by omega) hk
   have hcc:=h.hc k (by omega) hk
   rw [hp.all k (by omega) hk,if_pos (by omega),Int.toNat_natCast]
   rw [orL2_le ((abvAll_3 hs led k).at _) (h3.at _)]
   have e:=abvAll_old hs led (parH hs k) (k - 1) (by omega)
   rw [show k - 1 + 1 = k by omega] at e
   rw [e,ih _ hpk (by omega)]
   constructor
   ·rintro ⟨⟨h1,h2⟩,h4⟩
    refine ⟨h1,fun m m1 m2=>?_⟩
    have:=(h.hg m k (by omega) m1 m2).2
    by_cases em:m = parH hs k
    ·rw [em];exact h4
    ·exact h2 m (by omega) (by omega)
   ·rintro ⟨h1,h2⟩
    refine ⟨⟨h1,fun m m1 m2=>?_⟩,h2 _ hpk hcc⟩
    exact h2 m (by omega) (by have:=h.hn m (parH hs k) (by omega) m1 m2;omega)
theorem frT_le (h:Lk hs rs) (hp:Pars hs) (led:List Int) (h3:R3 led) (ax:Int) (ha:0 ≤ ax ∧ ax ≤ 3) (c:Int) (k:Nat) (hk:k < hs.length):frT hs led ax k ≤ c ↔ 0 ≤ c ∧ ∀ m,m < hs.length → Leads hs rs ax m k → led.getD m 0 ≤ c:=by
 have hT:=h3.at k
 unfold T3 at hT
 have habv:=abv_le h hp led h3 c k hk
 unfold frT Leads
 obtain rfl | rfl | rfl | rfl:ax = 0 ∨ ax = 1 ∨ ax = 2 ∨ ax = 3:=by omega
 ·rw [if_pos rfl]
  unfold parV
  by_cases h0:k = 0
  ·subst h0
   rw [hp.root,if_neg (by decide)]
   exact ⟨fun h=>⟨h,fun m _ hm=>by omega⟩,fun h=>h.1⟩
  ·have hpk:=h.parlt k (by omega) hk
   have hcc:=h.hc k (by omega) hk
   rw [hp.all k (by omega) hk,if_pos (by omega),Int.toNat_natCast]
   have h30:=h3.at (parH hs k)
   unfold T3 at h30
   constructor
   ·intro h1
    refine ⟨by omega,fun m _ hm=>?_⟩
    rcases hm with ⟨h2,_⟩ | ⟨_,_,_,h2⟩
    ·omega
    ·rw [← h2 rfl];exact h1
   ·rintro ⟨_,h1⟩
    exact h1 _ (by omega) (.inr ⟨by decide,hpk,hcc,fun _=>rfl⟩)
 ·rw [if_neg (by decide),if_pos rfl,habv]
  exact ⟨fun ⟨h1,h2⟩=>⟨h1,fun m _ hm=>by
   rcases hm with ⟨h4,_⟩ | ⟨_,h5,h6,_⟩
   ·omega
   ·exact h2 m h5 h6⟩,fun ⟨h1,h2⟩=>⟨h1,fun m h5 h6=>h2 m (by omega) (.inr ⟨by decide,h5,h6,fun hh=>by cases hh⟩)⟩⟩
 ·rw [if_neg (by decide),if_neg (by decide),if_pos rfl,orL2_le ((abvAll_3 hs led (k + 1)).at _) (h3.at _),habv]
  constructor
  ·rintro ⟨⟨h1,h2⟩,h4⟩
   refine ⟨h1,fun m _ hm=>?_⟩
   rcases hm with ⟨_,rfl⟩ | ⟨_,h5,h6,_⟩
   ·exact h4
   ·exact h2 m h5 h6
  ·rintro ⟨h1,h2⟩
   exact ⟨⟨h1,fun m h5 h6=>h2 m (by omega) (.inr ⟨by decide,h5,h6,fun hh=>by cases hh⟩)⟩,h2 k hk (.inl ⟨by decide,rfl⟩)⟩
 ·rw [if_neg (by decide),if_neg (by decide),if_neg (by decide)]
  constructor
  ·intro h1
   refine ⟨by omega,fun m _ hm=>?_⟩
   rcases hm with ⟨_,rfl⟩ | ⟨h5,_⟩
   ·exact h1
   ·exact absurd rfl h5
  ·rintro ⟨_,h2⟩
   exact h2 k hk (.inl ⟨by decide,rfl⟩)
end
end Go.Proofs.YtgjokdngbocehaaGreatDoor
namespace Go.Proofs.YtgjokdngbocehaaGreatDoor
open Go.RowKit
section
variable {hs hs':List HN} {rs rs':List RN}
theorem back_le (h:Lk hs rs) (ex:PX → List Int) (s:PS) (l:List Int) (ha:0 ≤ s.axis ∧ s.axis ≤ 3) (c:Int) (m:Nat) (hm:m < hs.length):(backT ex hs s l).getD m 0 ≤ c ↔ 0 ≤ c ∧ (s.axis ≠ 3 → opI hs m ≤ c) ∧ ∀ k,k < hs.length → Leads hs rs s.axis m k → (metT ex hs s l).getD k 0 ≤ c:=by
 have he3:R3 (metT ex hs s l):=metT_3 _ _ _ _
 unfold backT
 simp only
 generalize metT ex hs s l = he at *
 have hm3:=he3.at m
 have hT:0 ≤ he.getD m 0:=hm3.1
 have ho3:0 ≤ opI hs m:=(opI_3 hs m).1
 have hdeep:=deep_le hs he he3 h.parlt (lastH rs) h.hc h.hg h.hn h.opn c (hs.length - m) m (by omega) hm
 obtain ⟨_,hd3,hd1,hd2⟩:=cdAll_ok hs he (hs.length - 1) 1 (by omega)
 unfold Leads
 obtain e | e | e | e:s.axis = 0 ∨ s.axis = 1 ∨ s.axis = 2 ∨ s.axis = 3:=by omega
 ·rw [e,if_neg (by decide),if_pos rfl,(cd_le hs he he3 h.parlt c (hs.length - 1) 1 (by omega) (Nat.le_refl _) m hm).1]
  constructor
  ·rintro ⟨q1,q2⟩
   refine ⟨by omega,fun _=>q1,fun k hk hL=>?_⟩
   rcases hL with ⟨x,_⟩ | ⟨_,x1,x2,x3⟩
   ·omega
   ·exact q2 k (by omega) hk (x3 rfl)
  ·rintro ⟨_,q1,q2⟩
   refine ⟨q1 (by decide),fun k k1 hk k3=>?_⟩
   have g1:=h.parlt k k1 hk
   have g2:=h.hc k k1 hk
   rw [k3] at g1 g2
   exact q2 k hk (.inr ⟨by decide,g1,g2,fun _=>k3⟩)
 ·rw [e,if_neg (by decide),if_neg (by decide),if_neg (by decide),hdeep]
  constructor
  ·rintro ⟨q1,q2⟩
   refine ⟨by omega,fun _=>q1,fun k hk hL=>?_⟩
   rcases hL with ⟨x,_⟩ | ⟨_,x1,x2,_⟩
   ·omega
   ·exact q2 k x1 x2
  ·rintro ⟨_,q1,q2⟩
   exact ⟨q1 (by decide),fun k k1 k2=>q2 k (h.hg m k hm k1 k2).1 (.inr ⟨by decide,k1,k2,fun x=>by cases x⟩)⟩
 ·rw [e,if_neg (by decide),if_neg (by decide),if_pos rfl,rowOf_getD _ _ _ hm,orL2_le (hd3.at m) hm3,hdeep]
  constructor
  ·rintro ⟨⟨q1,q2⟩,q3⟩
   refine ⟨by omega,fun _=>q1,fun k hk hL=>?_⟩
   rcases hL with ⟨_,rfl⟩ | ⟨_,x1,x2,_⟩
   ·exact q3
   ·exact q2 k x1 x2
  ·rintro ⟨_,q1,q2⟩
   exact ⟨⟨q1 (by decide),fun k k1 k2=>q2 k (h.hg m k hm k1 k2).1 (.inr ⟨by decide,k1,k2,fun x=>by cases x⟩)⟩,q2 m hm (.inl ⟨by decide,rfl⟩)⟩
 ·rw [e,if_pos rfl]
  constructor
  ·intro q
   refine ⟨by omega,fun x=>absurd rfl x,fun k hk hL=>?_⟩
   rcases hL with ⟨_,rfl⟩ | ⟨x,_⟩
   ·exact q
   ·exact absurd rfl x
  ·rintro ⟨_,_,q⟩
   exact q m hm (.inl ⟨by decide,rfl⟩)
end
end Go.Proofs.YtgjokdngbocehaaGreatDoor
namespace Go.Proofs.YtgjokdngbocehaaGreatDoor
open Go.RowKit
def pathK (ex:PX → List Int) (hs:List HN) (x:PX) (j:Nat):List Int :=
 (x.path.drop j).foldr (fun s out=>backT ex hs s out) (rowOf hs.length fun k=>(hs[k]?.map fun h=>asksT h x).getD 0)
theorem pathK_end (ex:PX → List Int) (hs:List HN) (x:PX):pathK ex hs x x.path.length = rowOf hs.length fun k=>(hs[k]?.map fun h=>asksT h x).getD 0:=by unfold pathK;rw [List.drop_length];rfl
theorem pathK_step (ex:PX → List Int) (hs:List HN) (x:PX) (j:Nat) (h:j < x.path.length):pathK ex hs x j = backT ex hs x.path[j] (pathK ex hs x (j + 1)):=by
 unfold pathK
 rw [List.drop_eq_getElem_cons h,List.foldr_cons]
theorem pathK_all (hs:List HN) (f:Nat) (x:PX) (h:x.op = 3):pathK (exprT hs f) hs x 0 = exprT hs (f + 1) x:=by
 show _ = if x.op = 3 then _ else _
 rw [if_pos h]
 rfl
set_option maxRecDepth 100000 in
set_option maxHeartbeats 8000000 in
theorem hexprSome_any {hb:Nat} {hs:List HN} {f:Nat} (HX:HalfX hb hs f) (x:PX) (aa:Option Addr) (ac:Nat) (pa:Option Addr) (pc:Nat) (w:World) (hH:HAt w hb hs) (hp:SsAt f w pa x.path) (hpl:x.path.length ≤ 1048576) (htx:x.text.length ≤ 1048576) (hg:goodPB (goodXB f) x.path = true) (hop:x.op = 3) :
  Calls Tryz.prog 35 #[.pointer (some ⟨hb,0,none⟩),.agg (exprC x aa ac pa pc).toArray] w fun e w'=>∃ P,e = .returned (.slice (some ⟨P,0,none⟩) hs.length hs.length) ∧ w.heap.size ≤ P ∧ TsAt w' (some ⟨P,0,none⟩) hs.length (exprT hs (f + 1) x) ∧ Below w.heap.size w w':=by
 obtain ⟨i0,hi,hz0,hz1,hz2⟩:=info_parts infoTru
 obtain ⟨q,hq⟩:∃ q,x.path.length = q:=⟨_,rfl⟩
 have HQ:=Lib.hid hq
 have hXV:(exprC x aa ac pa pc).toArray = #[.int .i64 3,.slice aa x.args.length ac,.slice pa q pc,.string (strL x.attr),.int .i64 x.cmp,.string (strL x.text),.int .i64 x.num]:=by unfold exprC;rw [hop,hq]
 rw [hXV]
 rw [hq] at hpl
 have HH:=Lib.hid hH
 obtain ⟨na,nc,hlt,hcn,hrow⟩:=hH.get
 have HROW:=Lib.hid hrow
 have HSS:=Lib.hid hp
 have HG:=Lib.hid hg
 have hcap:=hH.cap
 have hpos:=hH.pos
 have HEX:=Lib.hid HX
 have HTX:=Lib.hid htx
 obtain ⟨n,hnn⟩:∃ n,hs.length = n:=⟨_,rfl⟩
 have HN:=Lib.hid hnn
 have HCN:Hid (∀ W,Below w.heap.size w W → W.cell? ⟨hb,1,none⟩ = some (.slice na n nc)):=Lib.hid (by rw [← hnn];exact hcn)
 have HP0:Hid (pathK (exprT hs f) hs x 0 = exprT hs (f + 1) x):=Lib.hid (pathK_all hs f x hop)
 have HPE:Hid (pathK (exprT hs f) hs x q = rowOf n fun k=>(hs[k]?.map fun h=>asksT h x).getD 0):=Lib.hid (by rw [← hq,pathK_end,hnn])
 have HAS:Hid (∀ k (hk:k < hs.length) A m c' W,AttrsAt W A m hs[k].ev.ats → m ≤ 1048576 → (∀ p ∈ hs[k].ev.ats,p.2.length ≤ 1048576) → hs[k].txt.length ≤ 1048576 → Calls Tryz.prog 63 #[.agg #[.int .i64 hs[k].ev.kind,.int .i64 hs[k].ev.num,.int .i64 hs[k].ev.dep,.string (strL hs[k].ev.name),.slice A m c',.string (strL hs[k].ev.text),.int .i64 hs[k].ev.fr,.int .i64 hs[k].ev.tt,.int .i64 hs[k].kd,.int .i64 hs[k].par,.bool hs[k].op,.string (strL hs[k].txt),.int .i64 hs[k].bg,.int .i64 hs[k].en],.agg #[.int .i64 3,.slice aa x.args.length ac,.slice pa q pc,.string (strL x.attr),.int .i64 x.cmp,.string (strL x.text),.int .i64 x.num]] W fun e w'=>e = .returned (.int .i64 ((hs[k]?.map fun h=>asksT h x).getD 0)) ∧ Below W.heap.size W w'):=Lib.hid fun k hk A m c' W g1 g2 g3 g4=>by
  rw [List.getElem?_eq_getElem hk]
  have h:=hasks_any hs[k] A m c' x aa ac pa pc W g1 g2 g3 g4 htx
  rw [hXV] at h
  exact h
 have HBK:Hid (∀ j (hj:j < x.path.length) wa wn a l W,Below w.heap.size w W → XsAt f W wa x.path[j].wher → x.path[j].wher.length ≤ 1048576 → TsAt W a n l → Calls Tryz.prog 64 #[.pointer (some ⟨hb,0,none⟩),.agg (stepC x.path[j] wa wn).toArray,.slice a n n] W fun e w'=>∃ P,e = .returned (.slice (some ⟨P,0,none⟩) n n) ∧ W.heap.size ≤ P ∧ TsAt w' (some ⟨P,0,none⟩) n (backT (exprT hs f) hs x.path[j] l) ∧ Below W.heap.size W w'):=Lib.hid fun j hj wa wn a l W hW g1 g2 g3=>by
  have hgs:=goodPB_at hg j hj
  have:=back_any HX x.path[j] wa wn a n l W (hH.below hW) g1 g2 (List.all_eq_true.2 fun y hy=>by
   obtain ⟨i,hi,rfl⟩:=List.getElem_of_mem hy
   exact goodSB_at hgs i hi) (by rw [hnn];exact g3)
  rw [hnn] at this;exact this
 have HPK:Hid (∀ j (hj:j < x.path.length),pathK (exprT hs f) hs x j = backT (exprT hs f) hs x.path[j] (pathK (exprT hs f) hs x (j + 1))):=Lib.hid fun j hj=>pathK_step _ _ _ j hj
 obtain ⟨R,hR⟩:∃ R,exprT hs (f + 1) x = R:=⟨_,rfl⟩
 rw [hR] at HP0
 rw [hR,hnn]
 rw [hnn] at hcap hpos
 have HMK:Hid (∀ w1,w1.ownsRow (w.alloc (.cells #[.int .i64 3,.slice aa x.args.length ac,.slice pa q pc,.string (strL x.attr),.int .i64 x.cmp,.string (strL x.text),.int .i64 x.num] 42)).heap.size 48 1 (.slice (some ⟨(w.alloc (.cells #[.int .i64 3,.slice aa x.args.length ac,.slice pa q pc,.string (strL x.attr),.int .i64 x.cmp,.string (strL x.text),.int .i64 x.num] 42)).heap.size,0,none⟩) n n) n (madeCells (Value.int .i64 0).cells (n * 1)).toList → (w.alloc (.cells #[.int .i64 3,.slice aa x.args.length ac,.slice pa q pc,.string (strL x.attr),.int .i64 x.cmp,.string (strL x.text),.int .i64 x.num] 42)).grownBy w1 none → MI w w.heap.size (.cells #[.int .i64 3,.slice aa x.args.length ac,.slice pa q pc,.string (strL x.attr),.int .i64 x.cmp,.string (strL x.text),.int .i64 x.num] 42) (w.heap.size + 1) n (List.replicate n 0) w1 ∧ w1.cell? ⟨hb,1,none⟩ = some (.slice na n nc) ∧ w1.cell? ⟨w.heap.size,0,none⟩ = some (.int .i64 3)):=Lib.hid fun w1 hown hgr=>by
  obtain ⟨h1,h2⟩:=MI.made (w:=w) (k:=w.heap.size) (o:=(.cells #[.int .i64 3,.slice aa x.args.length ac,.slice pa q pc,.string (strL x.attr),.int .i64 x.cmp,.string (strL x.text),.int .i64 x.num] 42)) ((Below.refl w.heap.size w).alloc (Nat.le_refl _) _) (heap_alloc_new w _) hown hgr
  rw [World.size_alloc] at h1
  exact ⟨h1,HCN.out _ h1.old,by rw [cell_heap h1.box];rfl⟩
 have c0:=HCN.out w (Below.refl _ _)
 clear hR hH hrow hcn hp hg HX hop htx hq hXV
 go_enter Tryz.func35,Tryz.ntmps35
 go_wp2_with (at_make;go_must ((refine wpList_make_full (w.alloc (.cells #[.int .i64 3,.slice aa x.args.length ac,.slice pa q pc,.string (strL x.attr),.int .i64 x.cmp,.string (strL x.text),.int .i64 x.num] 42)) (by rfl) _ _ 81 (by rfl) (w.alloc (.cells #[.int .i64 3,.slice aa x.args.length ac,.slice pa q pc,.string (strL x.attr),.int .i64 x.cmp,.string (strL x.text),.int .i64 x.num] 42)).heap.size 48 i0 _ 1 Tryz.underlying81 hi hz0 hz1 .i64 .i64 (n:Int) (n:Int) n (by rfl) (by rfl) rfl rfl (by rw [hz2];omega) (by unfold maxLen;omega) (Nat.le_refl _) (fun w1 hown hgr=>?_));have HM1:=Lib.hid (HMK.out w1 hown hgr);have c1:=HM1.out.2.1;have c2:=HM1.out.2.2))
 have HMI:=Lib.hid HM1.out.1
 clear hown hgr HM1
 generalize hP:w.heap.size + 1 = P at *
 go_loopw [30] (fun iv wr=>∃ k:Nat,iv = .int .i64 k ∧ k ≤ n ∧ Hid (MI w w.heap.size (.cells #[.int .i64 3,.slice aa x.args.length ac,.slice pa q pc,.string (strL x.attr),.int .i64 x.cmp,.string (strL x.text),.int .i64 x.num] 42) P n (mixR n k (fun k=>(hs[k]?.map fun h=>asksT h x).getD 0) (fun _=>0)) wr)) (fun iv _=>n - (intOf iv).toNat)
 case atStart=>exact ⟨0,rfl,Nat.zero_le _,Lib.hid (by rw [← rep_mix];exact HMI.out)⟩
 case round =>
  obtain ⟨k,rfl,hk,HM⟩:=hrel
  by_cases hkn:k < n
  ·have hkl:k < hs.length:=by rw [HN.out];exact hkn
   obtain ⟨b,o,A,m,c',rfl,hbl,hm,hA,hat,htx,hcells⟩:=HROW.out k hkl
   obtain ⟨e0,e1,e2,e3,e4,e5,e6,e7,e8,e9,e10,e11,e12,e13⟩:=hcells wr HM.out.old
   have HTK:Hid (∀ W,Below w.heap.size w W → Calls Tryz.prog 63 #[.agg #[.int .i64 hs[k].ev.kind,.int .i64 hs[k].ev.num,.int .i64 hs[k].ev.dep,.string (strL hs[k].ev.name),.slice A m c',.string (strL hs[k].ev.text),.int .i64 hs[k].ev.fr,.int .i64 hs[k].ev.tt,.int .i64 hs[k].kd,.int .i64 hs[k].par,.bool hs[k].op,.string (strL hs[k].txt),.int .i64 hs[k].bg,.int .i64 hs[k].en],.agg #[.int .i64 3,.slice aa x.args.length ac,.slice pa q pc,.string (strL x.attr),.int .i64 x.cmp,.string (strL x.text),.int .i64 x.num]] W fun e w'=>e = .returned (.int .i64 ((hs[k]?.map fun h=>asksT h x).getD 0)) ∧ Below W.heap.size W w'):=Lib.hid fun W hW=>HAS.out k hkl A m c' W (hA.below hW) hm hat htx
   have HNX:Hid (∀ W,MI w w.heap.size (.cells #[.int .i64 3,.slice aa x.args.length ac,.slice pa q pc,.string (strL x.attr),.int .i64 x.cmp,.string (strL x.text),.int .i64 x.num] 42) P n (mixR n k (fun k=>(hs[k]?.map fun h=>asksT h x).getD 0) (fun _=>0)) W → MI w w.heap.size (.cells #[.int .i64 3,.slice aa x.args.length ac,.slice pa q pc,.string (strL x.attr),.int .i64 x.cmp,.string (strL x.text),.int .i64 x.num] 42) P n (mixR n (k + 1) (fun k=>(hs[k]?.map fun h=>asksT h x).getD 0) (fun _=>0)) (W.setCell ⟨P,k,none⟩ (.int .i64 ((hs[k]?.map fun h=>asksT h x).getD 0)))):=Lib.hid fun W hW=>by
    have:=hW.set k ((hs[k]?.map fun h=>asksT h x).getD 0)
    rwa [mixR_set _ _ _ _ _ rfl] at this
   have HEXI:Hid (∀ W,MI w w.heap.size (.cells #[.int .i64 3,.slice aa x.args.length ac,.slice pa q pc,.string (strL x.attr),.int .i64 x.cmp,.string (strL x.text),.int .i64 x.num] 42) P n (mixR n k (fun k=>(hs[k]?.map fun h=>asksT h x).getD 0) (fun _=>0)) W → P < W.heap.size ∧ W.frozen? ⟨P,k,none⟩ = false ∧ ∃ x,W.cell? ⟨P,k,none⟩ = some x):=Lib.hid fun W hW=>⟨(hW.own.lt _ rfl).2,hW.frozen k,⟨_,hW.at k hkn⟩⟩
   have HAL:Hid (∀ o,MI w w.heap.size (.cells #[.int .i64 3,.slice aa x.args.length ac,.slice pa q pc,.string (strL x.attr),.int .i64 x.cmp,.string (strL x.text),.int .i64 x.num] 42) P n (mixR n k (fun k=>(hs[k]?.map fun h=>asksT h x).getD 0) (fun _=>0)) (wr.alloc o)):=Lib.hid fun o=>HM.out.below ((Below.refl _ _).alloc (Nat.le_refl _) _)
   clear hcells hA hat hm htx
   generalize hs[k] = hn at *
   generalize (hs[k]?.map fun h=>asksT h x).getD 0 = tv at *
   have i2:(0:Int) ≤ (k:Int):=by omega
   have i3:(k:Int) < (n:Int):=by omega
   have ewi:IntKind.i64.wrap ((k:Int) + 1) = (k:Int) + 1:=IntWalk.i64_in _ (by omega)
   have x0:wr.cell? ⟨w.heap.size,0,none⟩ = some (.int .i64 3):=by rw [cell_heap HM.out.box];rfl
   have x1:wr.cell? ⟨w.heap.size,1,none⟩ = some (.slice aa x.args.length ac):=by rw [cell_heap HM.out.box];rfl
   have x2:wr.cell? ⟨w.heap.size,2,none⟩ = some (.slice pa q pc):=by rw [cell_heap HM.out.box];rfl
   have x3:wr.cell? ⟨w.heap.size,3,none⟩ = some (.string (strL x.attr)):=by rw [cell_heap HM.out.box];rfl
   have x4:wr.cell? ⟨w.heap.size,4,none⟩ = some (.int .i64 x.cmp):=by rw [cell_heap HM.out.box];rfl
   have x5:wr.cell? ⟨w.heap.size,5,none⟩ = some (.string (strL x.text)):=by rw [cell_heap HM.out.box];rfl
   have x6:wr.cell? ⟨w.heap.size,6,none⟩ = some (.int .i64 x.num):=by rw [cell_heap HM.out.box];rfl
   have hlt3:w.heap.size < wr.heap.size:=(Array.getElem?_eq_some_iff.1 HM.out.box).1
   go_wp2_with fail
   (with_reducible refine (HTK.out _ (HAL.out _).old).mono ?_)
   rintro e w5 ⟨rfl,hb5⟩
   have HM5:=Lib.hid ((HAL.out _).below hb5)
   clear hb5 x0 x1 x2 x3 x4 x5 x6
   obtain ⟨p5,f5,y5,z5⟩:=HEXI.out w5 HM5.out
   go_wp2_with fail
   go_roundw
   case rel=>exact ⟨k + 1,by go_num,by omega,Lib.hid (HNX.out _ HM5.out)⟩
   case measure=>simp [intOf];omega
  ·have hk2:n = k:=by omega
   subst hk2
   have HM2:Hid (w.heap.size ≤ P ∧ Below w.heap.size w wr ∧ wr.heap[w.heap.size]? = some (.cells #[.int .i64 3,.slice aa x.args.length ac,.slice pa q pc,.string (strL x.attr),.int .i64 x.cmp,.string (strL x.text),.int .i64 x.num] 42) ∧ TsAt wr (some ⟨P,0,none⟩) n (pathK (exprT hs f) hs x q)):=Lib.hid ⟨HM.out.lo,HM.out.old,HM.out.box,by have:=HM.out.ts;rw [mixR_all] at this;rw [HPE.out];exact this⟩
   have x2:wr.cell? ⟨w.heap.size,2,none⟩ = some (.slice pa q pc):=by rw [cell_heap HM.out.box];rfl
   have ewq:IntKind.i64.wrap ((q:Int) - 1) = (q:Int) - 1:=IntWalk.i64_in _ (by omega)
   clear HM hk hkn HMI HAS HROW
   go_wp2_with fail
   go_loopw [5,8] (fun ov iv wr=>∃ j Q:Nat,ov = .slice (some ⟨Q,0,none⟩) n n ∧ iv = .int .i64 ((j:Int) - 1) ∧ j ≤ q ∧ Hid (w.heap.size ≤ Q ∧ Below w.heap.size w wr ∧ wr.heap[w.heap.size]? = some (.cells #[.int .i64 3,.slice aa x.args.length ac,.slice pa q pc,.string (strL x.attr),.int .i64 x.cmp,.string (strL x.text),.int .i64 x.num] 42) ∧ TsAt wr (some ⟨Q,0,none⟩) n (pathK (exprT hs f) hs x j))) (fun _ iv _=>(intOf iv + 1).toNat)
   case atStart=>exact ⟨q,P,rfl,rfl,Nat.le_refl _,HM2⟩
   case round =>
    obtain ⟨j,Q,rfl,rfl,hjq,HJ⟩:=hrel
    by_cases hj0:0 < j
    ·obtain ⟨i,hij⟩:∃ i,j = i + 1:=⟨j - 1,by omega⟩
     subst hij
     have hji:((i + 1:Nat):Int) - 1 = (i:Int):=by omega
     rw [hji]
     have hiq:i < x.path.length:=by rw [HQ.out];omega
     obtain ⟨b,o,wa,wn,rfl,hbl,hst,hcs⟩:=HSS.out.get' i hiq
     obtain ⟨s0,s1,s2,s3⟩:=hcs wr HJ.out.2.1
     have x2':wr.cell? ⟨w.heap.size,2,none⟩ = some (.slice (some ⟨b,o,none⟩) q pc):=by rw [cell_heap HJ.out.2.2.1];rfl
     have HB:Hid (Calls Tryz.prog 64 #[.pointer (some ⟨hb,0,none⟩),.agg (stepC x.path[i] wa wn).toArray,.slice (some ⟨Q,0,none⟩) n n] wr fun e w'=>∃ P,e = .returned (.slice (some ⟨P,0,none⟩) n n) ∧ wr.heap.size ≤ P ∧ TsAt w' (some ⟨P,0,none⟩) n (pathK (exprT hs f) hs x i) ∧ Below wr.heap.size wr w'):=Lib.hid (by
      obtain ⟨a',c',hcc,hwl,_,_,_,hwn,hxs⟩:=hst
      cases hcc
      rw [HPK.out i hiq]
      exact HBK.out i hiq _ _ _ _ wr HJ.out.2.1 (XsAt.below hxs HJ.out.2.1) hwn HJ.out.2.2.2)
     have HWL:Hid (w.heap.size < wr.heap.size):=Lib.hid (Array.getElem?_eq_some_iff.1 HJ.out.2.2.1).1
     have i2:(0:Int) ≤ (i:Int):=by omega
     have i3:(i:Int) < (q:Int):=by have:=HQ.out;omega
     have ewi:IntKind.i64.wrap ((i:Int) - 1) = (i:Int) - 1:=IntWalk.i64_in _ (by omega)
     unfold stepC at HB
     clear hst hcs
     generalize x.path[i] = s at *
     go_wp2_with fail
     (with_reducible refine HB.out.mono ?_)
     rintro e w5 ⟨P5,rfl,hP5,hts,hb5⟩
     have HX5:Hid (w.heap.size ≤ P5 ∧ Below w.heap.size w w5 ∧ w5.heap[w.heap.size]? = some (.cells #[.int .i64 3,.slice aa x.args.length ac,.slice (some ⟨b,o,none⟩) q pc,.string (strL x.attr),.int .i64 x.cmp,.string (strL x.text),.int .i64 x.num] 42) ∧ TsAt w5 (some ⟨P5,0,none⟩) n (pathK (exprT hs f) hs x i)):=Lib.hid ⟨by have:=HWL.out;omega,HJ.out.2.1.trans (hb5.mono HJ.out.2.1.size),(hb5.block _ HWL.out).trans HJ.out.2.2.1,hts⟩
     clear hP5 hts hb5
     go_wp2_with fail
     go_roundw
     case rel=>exact ⟨i,P5,rfl,rfl,by omega,HX5⟩
     case measure=>first | (simp [intOf];done) | (simp [intOf];omega)
    ·have hj2:j = 0:=by omega
     have HF:=Lib.hid HJ.out
     rw [hj2,HP0.out] at HF
     have i9:(j:Int) - 1 < 0:=by omega
     go_wp2_with fail
     go_ret
     exact ⟨Q,rfl,HF.out.1,HF.out.2.2.2,HF.out.2.1⟩
end Go.Proofs.YtgjokdngbocehaaGreatDoor
namespace Go.Proofs.YtgjokdngbocehaaGreatDoor
open Go.RowKit
structure PtAt (B n:Nat) (W:World) (v:Value) (L:List (List Int)):Prop where
 own:∃ cells,W.ownsRow B 81 1 v L.length cells ∧ ∀ (i:Nat) (l:List Int),L[i]? = some l → ∃ P,cells[i]? = some (.slice (some ⟨P,0,none⟩) n n) ∧ B ≤ P ∧ v.ownBlock ≠ some P ∧ TsAt W (some ⟨P,0,none⟩) n l
theorem PtAt.nil (B n:Nat) (W:World):PtAt B n W (.slice none 0 0) []:=⟨[],World.ownsRow_nil _ _ _ _,fun i l h=>by simp at h⟩
theorem PtAt.below {B n:Nat} {W W':World} {v:Value} {L:List (List Int)} (h:PtAt B n W v L) (hb:Below W.heap.size W W'):PtAt B n W' v L:=by
 obtain ⟨cells,h1,h2⟩:=h
 refine ⟨cells,own_block h1 fun k hk=>hb.block _ (h1.lt k hk).2,fun i l hl=>?_⟩
 obtain ⟨P,g1,g2,g3,g4⟩:=h2 i l hl
 exact ⟨P,g1,g2,g3,g4.below hb⟩
theorem PtAt.far {B n:Nat} {W:World} {v:Value} {L:List (List Int)} (h:PtAt B n W v L) {Q:Nat} (hQ:Q < B) (i:Nat) (u:Value):PtAt B n (W.setCell ⟨Q,i,none⟩ u) v L:=by
 obtain ⟨cells,h1,h2⟩:=h
 refine ⟨cells,own_block h1 fun k hk=>Below.heap_setCell _ _ _ _ (show k ≠ Q by have:=(h1.lt k hk).1;omega),fun i l hl=>?_⟩
 obtain ⟨P,g1,g2,g3,g4⟩:=h2 i l hl
 exact ⟨P,g1,g2,g3,g4.far (fun ad e=>by cases e;show P ≠ Q;omega) _⟩
theorem TsAt.keep {w w':World} {P n:Nat} {l:List Int} (h:TsAt w (some ⟨P,0,none⟩) n l) (hs:w.heap.size ≤ w'.heap.size) (hk:w'.heap[P]? = w.heap[P]?):TsAt w' (some ⟨P,0,none⟩) n l :=
 ⟨h.len,fun i hi=>by
  obtain ⟨b,o,e,h1,h2⟩:=h.at' i hi
  cases e
  exact ⟨P,0,rfl,Nat.lt_of_lt_of_le h1 hs,by rw [← h2];simp only [World.cell?,hk]⟩⟩
theorem PtAt.push {B n:Nat} {W W':World} {v v':Value} {L:List (List Int)} {cells:List Value} {o:Obj} (hn:1 ≤ n) (hc:W.ownsRow B 81 1 v L.length cells) (h:∀ (i:Nat) (l:List Int),L[i]? = some l → ∃ P,cells[i]? = some (.slice (some ⟨P,0,none⟩) n n) ∧ B ≤ P ∧ v.ownBlock ≠ some P ∧ TsAt W (some ⟨P,0,none⟩) n l)
  (hap:App (W.alloc o) W' v v') (P:Nat) (l:List Int) (hP:B ≤ P) (hv:v.ownBlock ≠ some P) (hT:TsAt W (some ⟨P,0,none⟩) n l)
  (hown:W'.ownsRow B 81 1 v' (L.length + 1) (cells ++ [.slice (some ⟨P,0,none⟩) n n])):PtAt B n W' v' (L ++ [l]):=by
 have key:∀ P m,v.ownBlock ≠ some P → TsAt W (some ⟨P,0,none⟩) n m → v'.ownBlock ≠ some P ∧ TsAt W' (some ⟨P,0,none⟩) n m:=fun P m h1 h2=>by
  have hlt:=(h2.at0 0 hn).2
  have hlt2:P < (W.alloc o).heap.size:=by simp;omega
  have hsz:W.heap.size ≤ W'.heap.size:=by have:=hap.grown.size;simp at this;omega
  exact ⟨hap.ne hlt2 h1,h2.keep hsz ((hap.keep hlt2 h1).trans (Below.heap_alloc _ _ _ hlt))⟩
 have hl:cells.length = L.length:=by have:=hc.1;omega
 refine ⟨cells ++ [.slice (some ⟨P,0,none⟩) n n],by rw [List.length_append];exact hown,fun i m hm=>?_⟩
 rcases snoc_get hm with ⟨hi,hm⟩ | ⟨hi,rfl⟩
 ·obtain ⟨P',g1,g2,g3,g4⟩:=h i m hm
  exact ⟨P',by rw [List.getElem?_append_left (by omega)];exact g1,g2,key _ _ g3 g4⟩
 ·exact ⟨P,by rw [List.getElem?_append_right (by omega),hi,hl,Nat.sub_self];rfl,hP,key _ _ hv hT⟩
theorem MI.below2 {w W W':World} {k P n B:Nat} {o:Obj} {l:List Int} (h:MI w k o P n l W) (hk:k < B) (hP:P < B) (hB:w.heap.size ≤ B) (hb:Below B W W'):MI w k o P n l W' :=
 ⟨h.old.trans (hb.mono hB),(hb.block _ hk).trans h.box,h.lo,h.ne,own_block h.own fun j hj=>by cases hj;exact hb.block _ hP,h.len⟩
theorem own_ts {B n:Nat} {W:World} {v:Value} {l:List Int} (h:W.ownsRow B 48 1 v n (tsC l)):∃ a c,v = .slice a n c ∧ n ≤ c ∧ TsAt W a n l:=by
 have hlen:=h.1
 rw [tsC_len,Nat.mul_one] at hlen
 obtain ⟨a,c,rfl,h1,h2,h3⟩:=own_slice h
 refine ⟨a,c,rfl,h1,hlen.symm,fun i hi=>?_⟩
 cases a with
 | none=>have:=h2 rfl;omega
 | some ad =>
  obtain ⟨g,rfl,_,g2,_,g4⟩:=h3 _ rfl
  exact ⟨g,0,rfl,g2,by rw [Nat.zero_add];exact g4 i _ (tsC_at l i hi)⟩
theorem infoTrus:(Tryz.prog.info? 81).map (fun i=>(i.zero,i.size,i.bytes)) = some (some (.slice none 0 0),1,24):=by kernel_rfl
end Go.Proofs.YtgjokdngbocehaaGreatDoor
namespace Go.Proofs.YtgjokdngbocehaaGreatDoor
open Go.RowKit
def gathT (op:Int) (r:List Int):Int:=if op = 0 then andL r else if op = 1 then orL r else notI (r.head?.getD 0)
theorem exprT_else (hs:List HN) (f:Nat) (x:PX) (h:x.op ≠ 3):exprT hs (f + 1) x = rowOf hs.length fun k=>gathT x.op ((x.args.map (exprT hs f)).map fun r=>r.getD k 0):=by
 show (if x.op = 3 then _ else _) = _
 rw [if_neg h]
 refine rowOf_congr fun k _=>?_
 unfold gathT
 rw [List.map_map,List.head?_map]
 cases x.args.head? <;> rfl
set_option maxRecDepth 100000 in
set_option maxHeartbeats 8000000 in
theorem hexprElse_any {hb:Nat} {hs:List HN} {f:Nat} (HX:HalfX hb hs f) (x:PX) (aa:Option Addr) (ac:Nat) (pa:Option Addr) (pc:Nat) (w:World) (hH:HAt w hb hs) (hx:XsAt f w aa x.args) (hal:x.args.length ≤ 1048576) (hg:x.args.all (goodXB f) = true) (hpos:1 ≤ x.args.length) (hop:x.op ≠ 3) :
  Calls Tryz.prog 35 #[.pointer (some ⟨hb,0,none⟩),.agg (exprC x aa ac pa pc).toArray] w fun e w'=>∃ P,e = .returned (.slice (some ⟨P,0,none⟩) hs.length hs.length) ∧ w.heap.size ≤ P ∧ TsAt w' (some ⟨P,0,none⟩) hs.length (exprT hs (f + 1) x) ∧ Below w.heap.size w w':=by
 obtain ⟨i0,hi,hz0,hz1,hz2⟩:=info_parts infoTru
 obtain ⟨j0,hj,hjz0,hjz1,hjz2⟩:=info_parts infoTrus
 have hcap:=hH.cap
 have hpn:=hH.pos
 obtain ⟨na,nc,hlt,hcn,_⟩:=hH.get
 have HXS:=Lib.hid hx
 have HG:Hid (∀ y ∈ x.args,goodXB f y = true):=Lib.hid (List.all_eq_true.1 hg)
 obtain ⟨n,hnn⟩:∃ n,hs.length = n:=⟨_,rfl⟩
 have HN:=Lib.hid hnn
 obtain ⟨q,hq⟩:∃ q,x.args.length = q:=⟨_,rfl⟩
 have HQ:=Lib.hid hq
 obtain ⟨op,hopv⟩:∃ op,x.op = op:=⟨_,rfl⟩
 have hXV:(exprC x aa ac pa pc).toArray = #[.int .i64 op,.slice aa q ac,.slice pa x.path.length pc,.string (strL x.attr),.int .i64 x.cmp,.string (strL x.text),.int .i64 x.num]:=by unfold exprC;rw [hopv,hq]
 rw [hXV]
 have HCN:Hid (∀ W,Below w.heap.size w W → W.cell? ⟨hb,1,none⟩ = some (.slice na n nc)):=Lib.hid (by rw [← hnn];exact hcn)
 have HCA:Hid (∀ y cs W,y ∈ x.args → Below w.heap.size w W → XAt f W y cs → Calls Tryz.prog 35 #[.pointer (some ⟨hb,0,none⟩),.agg cs.toArray] W fun e w'=>∃ P,e = .returned (.slice (some ⟨P,0,none⟩) n n) ∧ W.heap.size ≤ P ∧ TsAt w' (some ⟨P,0,none⟩) n (exprT hs f y) ∧ Below W.heap.size W w'):=Lib.hid fun y cs W hy hW hxa=>by
  have:=HX y cs W (hH.below hW) hxa (HG.out y hy)
  rw [hnn] at this;exact this
 have HFIN:Hid (exprT hs (f + 1) x = rowOf n fun k=>gathT op ((x.args.map (exprT hs f)).map fun r=>r.getD k 0)):=Lib.hid (by rw [exprT_else hs f x hop,hnn,hopv])
 have HAND:Hid (∀ a c l W,TsAt W a q l → Calls Tryz.prog 65 #[.slice a q c] W fun e w'=>e = .returned (.int .i64 (andL l)) ∧ w' = W):=Lib.hid fun a c l W h=>kAnd_any a q c l W h (by omega)
 have HOR:Hid (∀ a c l W,TsAt W a q l → Calls Tryz.prog 49 #[.slice a q c] W fun e w'=>e = .returned (.int .i64 (orL l)) ∧ w' = W):=Lib.hid fun a c l W h=>kOr_any a q c l W h (by omega)
 have HNOT:=Lib.hid kNot_any
 obtain ⟨R,hR⟩:∃ R,exprT hs (f + 1) x = R:=⟨_,rfl⟩
 rw [hR] at HFIN
 rw [hR,hnn]
 rw [hnn] at hcap hpn
 rw [hq] at hal hpos
 rw [hopv] at hop
 have t3:((op:Int) == 3) = false:=by simpa using hop
 have HMK:Hid (∀ w1,w1.ownsRow (w.alloc (.cells #[.int .i64 op,.slice aa q ac,.slice pa x.path.length pc,.string (strL x.attr),.int .i64 x.cmp,.string (strL x.text),.int .i64 x.num] 42)).heap.size 48 1 (.slice (some ⟨(w.alloc (.cells #[.int .i64 op,.slice aa q ac,.slice pa x.path.length pc,.string (strL x.attr),.int .i64 x.cmp,.string (strL x.text),.int .i64 x.num] 42)).heap.size,0,none⟩) n n) n (madeCells (Value.int .i64 0).cells (n * 1)).toList → (w.alloc (.cells #[.int .i64 op,.slice aa q ac,.slice pa x.path.length pc,.string (strL x.attr),.int .i64 x.cmp,.string (strL x.text),.int .i64 x.num] 42)).grownBy w1 none → MI w w.heap.size (.cells #[.int .i64 op,.slice aa q ac,.slice pa x.path.length pc,.string (strL x.attr),.int .i64 x.cmp,.string (strL x.text),.int .i64 x.num] 42) (w.heap.size + 1) n (List.replicate n 0) w1 ∧ w1.cell? ⟨w.heap.size,0,none⟩ = some (.int .i64 op) ∧ w1.cell? ⟨w.heap.size,1,none⟩ = some (.slice aa q ac)):=Lib.hid fun w1 hown hgr=>by
  obtain ⟨h1,h2⟩:=MI.made (w:=w) (k:=w.heap.size) (o:=(.cells #[.int .i64 op,.slice aa q ac,.slice pa x.path.length pc,.string (strL x.attr),.int .i64 x.cmp,.string (strL x.text),.int .i64 x.num] 42)) ((Below.refl w.heap.size w).alloc (Nat.le_refl _) _) (heap_alloc_new w _) hown hgr
  rw [World.size_alloc] at h1
  exact ⟨h1,by rw [cell_heap h1.box];rfl,by rw [cell_heap h1.box];rfl⟩
 have c0:=HCN.out w (Below.refl _ _)
 clear hR hH hcn hx hg HX hop hq hXV hnn
 go_enter Tryz.func35,Tryz.ntmps35
 go_wp2_with (at_make;go_must ((refine wpList_make_full (w.alloc (.cells #[.int .i64 op,.slice aa q ac,.slice pa x.path.length pc,.string (strL x.attr),.int .i64 x.cmp,.string (strL x.text),.int .i64 x.num] 42)) (by rfl) _ _ 81 (by rfl) (w.alloc (.cells #[.int .i64 op,.slice aa q ac,.slice pa x.path.length pc,.string (strL x.attr),.int .i64 x.cmp,.string (strL x.text),.int .i64 x.num] 42)).heap.size 48 i0 _ 1 Tryz.underlying81 hi hz0 hz1 .i64 .i64 (n:Int) (n:Int) n (by rfl) (by rfl) rfl rfl (by rw [hz2];omega) (by unfold maxLen;omega) (Nat.le_refl _) (fun w1 hown hgr=>?_));have HM1:=Lib.hid (HMK.out w1 hown hgr);have c1:=HM1.out.2.1;have c2:=HM1.out.2.2))
 have HMI:=Lib.hid HM1.out.1
 have HB1:Hid (w.heap.size + 2 ≤ w1.heap.size):=Lib.hid (by have h:w.heap.size + 1 < w1.heap.size:=(HMI.out.own.lt (w.heap.size + 1) rfl).2;omega)
 clear hown hgr HM1
 go_loopw [9,64] (fun ov iv wr=>∃ j:Nat,iv = .int .i64 j ∧ j ≤ q ∧ Hid (MI w w.heap.size (.cells #[.int .i64 op,.slice aa q ac,.slice pa x.path.length pc,.string (strL x.attr),.int .i64 x.cmp,.string (strL x.text),.int .i64 x.num] 42) (w.heap.size + 1) n (List.replicate n 0) wr ∧ w.heap.size + 2 ≤ wr.heap.size ∧ PtAt (w.heap.size + 2) n wr ov ((x.args.take j).map (exprT hs f)))) (fun _ iv _=>q - (intOf iv).toNat)
 case atStart=>exact ⟨0,rfl,Nat.zero_le _,Lib.hid ⟨HMI.out,HB1.out,PtAt.nil _ _ _⟩⟩
 case round =>
  obtain ⟨j,rfl,hjq,HJ⟩:=hrel
  by_cases hjl:j < q
  ·have hjw:j < x.args.length:=by rw [HQ.out];exact hjl
   obtain ⟨b2,o2,ya,yc,yp,yd,rfl,hb2,hxa,hcs⟩:=HXS.out.get' j hjw
   obtain ⟨x0,x1,x2,x3,x4,x5,x6⟩:=hcs wr HJ.out.1.old
   have HDX:Hid (∀ W,Below w.heap.size w W → Calls Tryz.prog 35 #[.pointer (some ⟨hb,0,none⟩),.agg (exprC x.args[j] ya yc yp yd).toArray] W fun e w'=>∃ P,e = .returned (.slice (some ⟨P,0,none⟩) n n) ∧ W.heap.size ≤ P ∧ TsAt w' (some ⟨P,0,none⟩) n (exprT hs f x.args[j]) ∧ Below W.heap.size W w'):=Lib.hid fun W hW=>HCA.out _ _ W (List.getElem_mem hjw) hW (XAt.turn hW (Nat.le_refl _) hxa)
   have HLL:Hid ((x.args.take (j + 1)).map (exprT hs f) = (x.args.take j).map (exprT hs f) ++ [exprT hs f x.args[j]]):=Lib.hid (by rw [List.take_succ_eq_append_getElem hjw,List.map_append];rfl)
   have HLJ:Hid (((x.args.take j).map (exprT hs f)).length = j):=Lib.hid (by rw [List.length_map,List.length_take];omega)
   clear hcs hxa hb2
   generalize exprT hs f x.args[j] = te at *
   generalize x.args[j] = y at *
   generalize (x.args.take j).map (exprT hs f) = L at *
   unfold exprC at HDX
   have i3:(0:Int) ≤ (j:Int):=by omega
   have i4:(j:Int) < (q:Int):=by omega
   have ewj:IntKind.i64.wrap ((j:Int) + 1) = (j:Int) + 1:=IntWalk.i64_in _ (by omega)
   obtain ⟨cells,hown,hrows⟩:=HJ.out.2.2.own
   have HOWN:=Lib.hid hown
   have HROWS:=Lib.hid hrows
   obtain ⟨oa,oc,rfl,_,_,_⟩:=own_slice hown
   clear hown hrows
   go_wp2_with fail
   (with_reducible refine (HDX.out _ (HJ.out.1.old.alloc HJ.out.1.old.size _)).mono ?_)
   rintro e w5 ⟨P5,rfl,hP5,hts,hb5⟩
   have HB5:Hid (Below wr.heap.size wr w5):=Lib.hid (((Below.refl wr.heap.size wr).alloc (Nat.le_refl _) _).trans (hb5.mono (by simp)))
   have hB:=HJ.out.2.1
   have hP5':wr.heap.size ≤ P5:=Nat.le_trans (by simp) hP5
   have HS5:Hid (w.heap.size + 2 ≤ w5.heap.size ∧ w.heap.size + 2 ≤ P5 ∧ Value.ownBlock (.slice oa L.length oc) ≠ some P5):=Lib.hid ⟨Nat.le_trans hB HB5.out.size,by omega,fun e=>by have h:=(HOWN.out.lt P5 e).2;omega⟩
   clear hP5'
   have HTS:=Lib.hid hts
   have HOWN5:=Lib.hid (own_block HOWN.out fun k hk=>HB5.out.block _ (HOWN.out.lt k hk).2)
   have HROWS5:Hid (∀ (i:Nat) (l:List Int),L[i]? = some l → ∃ P,cells[i]? = some (.slice (some ⟨P,0,none⟩) n n) ∧ w.heap.size + 2 ≤ P ∧ Value.ownBlock (.slice oa L.length oc) ≠ some P ∧ TsAt w5 (some ⟨P,0,none⟩) n l):=Lib.hid fun i l hl=>by
    obtain ⟨P,g1,g2,g3,g4⟩:=HROWS.out i l hl
    exact ⟨P,g1,g2,g3,g4.below HB5.out⟩
   have HMI5:=Lib.hid (HJ.out.1.below HB5.out)
   have hLl:L.length + 1 ≤ 4294967296:=by have:=HLJ.out;omega
   have hB5:=HS5.out.1
   clear hb5 hts hP5 hB
   go_wp2_with (at_builtin;go_must ((refine wpList_app w5 (by rfl) _ _ 130 (by rfl) (w.heap.size + 2) 81 j0 (.slice none 0 0) 1 24 Tryz.underlying130 hj hjz0 hjz1 hjz2 (by rfl) (by decide) (.slice oa L.length oc) L.length cells (by rfl) HOWN5.out _ rfl 1 [.slice (some ⟨P5,0,none⟩) n n] (by rfl) (by rfl) (by intro u hu;simp only [List.mem_cons,List.not_mem_nil,or_false] at hu;subst hu;rfl) hLl (by decide) hB5 (fun v7 w7 hown7 hap7=>?_))))
   have hpt:=PtAt.push (by omega:1 ≤ n) HOWN5.out HROWS5.out hap7 P5 te HS5.out.2.1 HS5.out.2.2 HTS.out hown7
   have hb7:Below (w.heap.size + 2) w5 w7:=((Below.refl _ _).alloc hB5 _).trans (hap7.below (by simp;omega) (fun k hk=>(HOWN5.out.lt k hk).1))
   have HX:=Lib.hid (⟨HMI5.out.below2 (by omega) (by omega) (by omega) hb7,Nat.le_trans hB5 hb7.size,by rw [HLL.out];exact hpt⟩:_ ∧ _ ∧ PtAt (w.heap.size + 2) n w7 v7 ((x.args.take (j + 1)).map (exprT hs f)))
   clear hpt hb7 hown7 hap7
   go_wp2_with fail
   go_roundw
   case rel=>exact ⟨j + 1,by go_num,by omega,HX⟩
   case measure=>simp [intOf];omega
  ·have hk2:q = j:=by omega
   subst hk2
   obtain ⟨LL,hLL⟩:∃ LL,(x.args.take q).map (exprT hs f) = LL:=⟨_,rfl⟩
   have HLq:Hid (LL.length = q):=Lib.hid (by rw [← hLL,List.length_map,List.length_take,HQ.out];omega)
   have HFI:Hid (R = rowOf n fun k=>gathT op (LL.map fun r=>r.getD k 0)):=Lib.hid (by rw [HFIN.out,← hLL,← HQ.out,List.take_length])
   have HJ2:=Lib.hid HJ.out
   rw [hLL] at HJ2
   clear HJ hLL HFIN HCA HXS HG
   obtain ⟨cells0,hown0,_⟩:=HJ2.out.2.2.own
   rw [HLq.out] at hown0
   obtain ⟨oa,oc,rfl,_,hnone,hsome⟩:=own_slice hown0
   obtain ⟨ad,hoa⟩:∃ ad,oa = some ad:=by
    cases oa with
    | none=>have:=hnone rfl;omega
    | some ad=>exact ⟨ad,rfl⟩
   subst hoa
   obtain ⟨g,rfl,_,_,_,_⟩:=hsome _ rfl
   have HK0:Hid (MI w w.heap.size (.cells #[.int .i64 op,.slice aa q ac,.slice pa x.path.length pc,.string (strL x.attr),.int .i64 x.cmp,.string (strL x.text),.int .i64 x.num] 42) (w.heap.size + 1) n (mixR n 0 (fun k=>gathT op (LL.map fun r=>r.getD k 0)) (fun _=>0)) wr ∧ w.heap.size + 2 ≤ wr.heap.size ∧ PtAt (w.heap.size + 2) n wr (.slice (some ⟨g,0,none⟩) q oc) LL):=Lib.hid ⟨by rw [← rep_mix];exact HJ2.out.1,HJ2.out.2.1,HJ2.out.2.2⟩
   clear hown0 hsome hnone HJ2 HMI HB1 hjl hjq HMK
   go_wp2_with fail
   go_loopw [77] (fun iv wr=>∃ i:Nat,iv = .int .i64 i ∧ i ≤ n ∧ Hid (MI w w.heap.size (.cells #[.int .i64 op,.slice aa q ac,.slice pa x.path.length pc,.string (strL x.attr),.int .i64 x.cmp,.string (strL x.text),.int .i64 x.num] 42) (w.heap.size + 1) n (mixR n i (fun k=>gathT op (LL.map fun r=>r.getD k 0)) (fun _=>0)) wr ∧ w.heap.size + 2 ≤ wr.heap.size ∧ PtAt (w.heap.size + 2) n wr (.slice (some ⟨g,0,none⟩) q oc) LL)) (fun iv _=>n - (intOf iv).toNat)
   case atStart=>exact ⟨0,rfl,Nat.zero_le _,HK0⟩
   case round =>
    obtain ⟨i,rfl,hin,HI⟩:=hrel
    obtain ⟨W4,rfl⟩:∃ W4,W4 = wr:=⟨_,rfl⟩
    by_cases hi':i < n
    ·have i5:(0:Int) ≤ (i:Int):=by omega
     have i6:(i:Int) < (n:Int):=by omega
     have ewi:IntKind.i64.wrap ((i:Int) + 1) = (i:Int) + 1:=IntWalk.i64_in _ (by omega)
     have HNX:Hid (∀ v W,v = gathT op (LL.map fun r=>r.getD i 0) → Below W4.heap.size W4 W → (W.cell? ⟨w.heap.size,0,none⟩ = some (.int .i64 op) ∧ w.heap.size + 1 < W.heap.size ∧ W.frozen? ⟨w.heap.size + 1,i,none⟩ = false ∧ ∃ u,W.cell? ⟨w.heap.size + 1,i,none⟩ = some u) ∧ (MI w w.heap.size (.cells #[.int .i64 op,.slice aa q ac,.slice pa x.path.length pc,.string (strL x.attr),.int .i64 x.cmp,.string (strL x.text),.int .i64 x.num] 42) (w.heap.size + 1) n (mixR n (i + 1) (fun k=>gathT op (LL.map fun r=>r.getD k 0)) (fun _=>0)) (W.setCell ⟨w.heap.size + 1,i,none⟩ (.int .i64 v)) ∧ w.heap.size + 2 ≤ (W.setCell ⟨w.heap.size + 1,i,none⟩ (.int .i64 v)).heap.size ∧ PtAt (w.heap.size + 2) n (W.setCell ⟨w.heap.size + 1,i,none⟩ (.int .i64 v)) (.slice (some ⟨g,0,none⟩) q oc) LL)):=Lib.hid fun v W hv hW=>by
      have h1:=HI.out.1.below hW
      have h2:=h1.set i v
      rw [mixR_set _ _ _ _ _ hv] at h2
      exact ⟨⟨by rw [cell_heap h1.box];rfl,(h1.own.lt _ rfl).2,h1.frozen i,⟨_,h1.at i hi'⟩⟩,h2,by have:=HI.out.2.1;have:=hW.size;simp [World.setCell];omega,(HI.out.2.2.below hW).far (by omega) i _⟩
     have HX0:Hid (∀ W,Below W4.heap.size W4 W → W.cell? ⟨w.heap.size,0,none⟩ = some (.int .i64 op) ∧ w.heap.size + 1 < W.heap.size ∧ W.frozen? ⟨w.heap.size + 1,i,none⟩ = false ∧ ∃ u,W.cell? ⟨w.heap.size + 1,i,none⟩ = some u):=Lib.hid fun W hW=>(HNX.out _ W rfl hW).1
     have HPT:=Lib.hid HI.out.2.2
     clear HI
     go_wp2_with fail
     go_loopw [13,82] (fun rv jv wr=>∃ j:Nat,jv = .int .i64 j ∧ j ≤ q ∧ Hid (Below W4.heap.size W4 wr ∧ wr.ownsRow W4.heap.size 48 1 rv j (tsC ((LL.take j).map fun r=>r.getD i 0)))) (fun _ jv _=>q - (intOf jv).toNat)
     case atStart=>exact ⟨0,rfl,Nat.zero_le _,Lib.hid ⟨Below.refl _ _,World.ownsRow_nil _ _ _ _⟩⟩
     case round =>
      obtain ⟨j,rfl,hjq,HJ⟩:=hrel
      by_cases hjl:j < q
      ·have hjL:j < LL.length:=by rw [HLq.out];exact hjl
       obtain ⟨cells,hown,hrows⟩:=HPT.out.own
       rw [HLq.out] at hown
       obtain ⟨P5,g1,g2,g3,g4⟩:=hrows j _ (List.getElem?_eq_getElem hjL)
       have hgl:=(hown.lt g rfl).2
       have c1:wr.cell? ⟨g,j,none⟩ = some (.slice (some ⟨P5,0,none⟩) n n):=(HJ.out.1.cell (p:=⟨g,j,none⟩) hgl).trans (by rw [hown.cellAt j (by omega)];exact g1)
       obtain ⟨c2,l2⟩:=(g4.below HJ.out.1).at0 i hi'
       have hgl2:g < wr.heap.size:=Nat.lt_of_lt_of_le hgl HJ.out.1.size
       have HTK:Hid (tsC ((LL.take (j + 1)).map fun r=>r.getD i 0) = tsC ((LL.take j).map fun r=>r.getD i 0) ++ [.int .i64 (LL[j].getD i 0)]):=Lib.hid (by rw [List.take_succ_eq_append_getElem hjL,List.map_append];unfold tsC;rw [List.map_append];rfl)
       clear hown hrows g1 g2 g3 g4 hgl
       generalize LL[j].getD i 0 = tv at *
       have HOWN:=Lib.hid HJ.out.2
       obtain ⟨ra,rc,rfl,_,_,_⟩:=own_slice HOWN.out
       have i7:(0:Int) ≤ (j:Int):=by omega
       have i8:(j:Int) < (q:Int):=by omega
       have ewj:IntKind.i64.wrap ((j:Int) + 1) = (j:Int) + 1:=IntWalk.i64_in _ (by omega)
       have hbs:=HJ.out.1.size
       go_wp2_with (at_builtin;go_must ((refine wpList_app wr (by rfl) _ _ 81 (by rfl) W4.heap.size 48 i0 (.int .i64 0) 1 8 Tryz.underlying81 hi hz0 hz1 hz2 (by rfl) (by decide) (.slice ra j rc) j _ (by rfl) HOWN.out _ rfl 1 [.int .i64 tv] (by rfl) (by rfl) (by intro u hu;simp only [List.mem_cons,List.not_mem_nil,or_false] at hu;subst hu;rfl) (by omega) (by decide) hbs (fun v7 w7 hown7 hap7=>?_))))
       have HX:=Lib.hid (⟨(HJ.out.1.alloc hbs _).trans (hap7.below (by simp;omega) (fun k hk=>(HOWN.out.lt k hk).1)),by rw [HTK.out];exact hown7⟩:Below W4.heap.size W4 w7 ∧ w7.ownsRow W4.heap.size 48 1 v7 (j + 1) (tsC ((LL.take (j + 1)).map fun r=>r.getD i 0)))
       clear hown7 hap7
       go_wp2_with fail
       go_roundw
       case rel=>exact ⟨j + 1,by go_num,by omega,HX⟩
       case measure=>simp [intOf];omega
      ·have hj2:q = j:=by omega
       subst hj2
       obtain ⟨ra,rc,rfl,_,hts⟩:=own_ts HJ.out.2
       obtain ⟨rr,hrr⟩:∃ rr,(LL.map fun r=>r.getD i 0) = rr:=⟨_,rfl⟩
       have HTS:Hid (TsAt wr ra q rr):=Lib.hid (by rw [← hrr];have h:=hts;rw [show LL.take q = LL from List.take_of_length_le (by rw [HLq.out];exact Nat.le_refl _)] at h;exact h)
       rw [hrr] at HNX
       have HB4:=Lib.hid HJ.out.1
       obtain ⟨y0,y1,y2,u,y3⟩:=HX0.out wr HB4.out
       clear HJ hts hrr
       by_cases h0:op = 0
       ·subst h0
        go_wp2_with fail
        (with_reducible refine (HAND.out ra rc rr wr HTS.out).mono ?_)
        rintro e w6 ⟨rfl,hw6⟩
        rw [hw6]
        clear hw6
        go_wp2_with fail
        go_roundw
        case rel=>exact ⟨i + 1,by go_num,by omega,Lib.hid (HNX.out _ wr (by unfold gathT;rw [if_pos rfl]) HB4.out).2⟩
        case measure=>simp [intOf];omega
       by_cases h1:op = 1
       ·subst h1
        go_wp2_with fail
        (with_reducible refine (HOR.out ra rc rr wr HTS.out).mono ?_)
        rintro e w6 ⟨rfl,hw6⟩
        rw [hw6]
        clear hw6
        go_wp2_with fail
        go_roundw
        case rel=>exact ⟨i + 1,by go_num,by omega,Lib.hid (HNX.out _ wr (by unfold gathT;rw [if_neg (by decide),if_pos rfl]) HB4.out).2⟩
        case measure=>simp [intOf];omega
       ·have t0:((op:Int) == 0) = false:=by simpa using h0
        have t1:((op:Int) == 1) = false:=by simpa using h1
        obtain ⟨rb,ro,rfl,hlr,hcr⟩:=HTS.out.get 0 (by omega)
        have c9:wr.cell? ⟨rb,ro,none⟩ = some (.int .i64 (rr.getD 0 0)):=by have:=hcr wr (Below.refl _ _);simpa using this
        have HVV:Hid (notI (rr.getD 0 0) = gathT op rr):=Lib.hid (by unfold gathT;rw [if_neg h0,if_neg h1];cases rr <;> rfl)
        have i9:(0:Int) < (q:Int):=by omega
        clear hcr h0 h1
        generalize rr.getD 0 0 = rv at *
        go_wp2_with fail
        (with_reducible refine (HNOT.out rv wr).mono ?_)
        rintro e w6 ⟨rfl,hw6⟩
        rw [hw6]
        clear hw6
        go_wp2_with fail
        go_roundw
        case rel=>exact ⟨i + 1,by go_num,by omega,Lib.hid (HNX.out _ wr HVV.out HB4.out).2⟩
        case measure=>simp [intOf];omega
    ·have hi2:n = i:=by omega
     subst hi2
     go_wp2_with fail
     go_ret
     exact ⟨w.heap.size + 1,rfl,HI.out.1.lo,by have h:=HI.out.1.ts;rw [mixR_all,← HFI.out] at h;exact h,HI.out.1.old⟩
end Go.Proofs.YtgjokdngbocehaaGreatDoor
namespace Go.Proofs.YtgjokdngbocehaaGreatDoor
open Go.RowKit
theorem half_all (hb:Nat) (hs:List HN):∀ f,HalfX hb hs f
 | 0=>fun x cs W _ h _=>h.elim
 | f + 1=>fun x cs W hH hxa hg=>by
  obtain ⟨a,c,p,d,rfl,_,_,_,_,_,_,htx,hal,hpl,hargs,hpath⟩:=hxa
  have hg':(if x.op = 3 then x.args.isEmpty && goodPB (goodXB f) x.path && (x.attr.isEmpty || nameB x.attr) && goodCB x.cmp x.text x.num
   else bareB x && (if x.op = 0 ∨ x.op = 1 then decide (2 ≤ x.args.length) else if x.op = 2 then decide (x.args.length = 1) else false) && x.args.all (goodXB f)) = true:=hg
  by_cases hop:x.op = 3
  ·rw [if_pos hop] at hg'
   simp only [Bool.and_eq_true] at hg'
   exact hexprSome_any (half_all hb hs f) x a c p d W hH hpath hpl htx hg'.1.1.2 hop
  ·rw [if_neg hop] at hg'
   simp only [Bool.and_eq_true] at hg'
   refine hexprElse_any (half_all hb hs f) x a c p d W hH hargs hal hg'.2 ?_ hop
   have h:=hg'.1.2
   split at h
   ·have:=of_decide_eq_true h;omega
   ·split at h
    ·have:=of_decide_eq_true h;omega
    ·cases h
end Go.Proofs.YtgjokdngbocehaaGreatDoor
