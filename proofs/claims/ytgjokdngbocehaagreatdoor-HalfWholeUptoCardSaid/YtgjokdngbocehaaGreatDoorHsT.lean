/-
  half: met.
-/
import Derived.Test.YtgjokdngbocehaaGreatDoorHsA
import Derived.Test.YtgjokdngbocehaaGreatDoorHsD
import Derived.Test.YtgjokdngbocehaaGreatDoorHsN
import Derived.Test.YtgjokdngbocehaaGreatDoorHsQ
import Derived.Test.YtgjokdngbocehaaGreatDoorHsR
import Derived.Test.YtgjokdngbocehaaGreatDoorHsS
namespace Go.Proofs.YtgjokdngbocehaaGreatDoor
open Go.RowKit
def HalfX (hb:Nat) (hs:List HN) (f:Nat):Prop:=∀ (x:PX) (cs:List Value) (W:World),HAt W hb hs → XAt f W x cs → goodXB f x = true →
 Calls Tryz.prog 35 #[.pointer (some ⟨hb,0,none⟩),.agg cs.toArray] W fun e w'=>∃ P,e = .returned (.slice (some ⟨P,0,none⟩) hs.length hs.length) ∧ W.heap.size ≤ P ∧ TsAt w' (some ⟨P,0,none⟩) hs.length (exprT hs f x) ∧ Below W.heap.size W w'
def metK (ex:PX → List Int) (hs:List HN) (s:PS) (b:List Int) (k:Nat):List Int :=
 (s.wher.take k).foldl (fun out x=>rowOf hs.length fun k=>andL [out.getD k 0,(ex x).getD k 0]) (rowOf hs.length fun k=>andL [(hs[k]?.map fun h=>testT h s).getD 0,b.getD k 0])
theorem metK_all (ex:PX → List Int) (hs:List HN) (s:PS) (b:List Int):metK ex hs s b s.wher.length = metT ex hs s b:=by unfold metK metT;rw [List.take_length]
theorem metK_succ (ex:PX → List Int) (hs:List HN) (s:PS) (b:List Int) (k:Nat) (h:k < s.wher.length):metK ex hs s b (k + 1) = rowOf hs.length fun i=>andL [(metK ex hs s b k).getD i 0,(ex s.wher[k]).getD i 0]:=by
 unfold metK;rw [List.take_succ_eq_append_getElem h,List.foldl_append];rfl
set_option maxRecDepth 100000 in
set_option maxHeartbeats 8000000 in
theorem met_any {hb:Nat} {hs:List HN} {f:Nat} (HX:HalfX hb hs f) (s:PS) (wa:Option Addr) (wc:Nat) (a:Option Addr) (c:Nat) (l:List Int) (w:World) (hH:HAt w hb hs) (hx:XsAt f w wa s.wher) (hn:s.wher.length ≤ 1048576) (hg:s.wher.all (goodXB f) = true) (hT:TsAt w a hs.length l) :
  Calls Tryz.prog 50 #[.pointer (some ⟨hb,0,none⟩),.agg (stepC s wa wc).toArray,.slice a hs.length c] w fun e w'=>∃ P,e = .returned (.slice (some ⟨P,0,none⟩) hs.length hs.length) ∧ w.heap.size ≤ P ∧ TsAt w' (some ⟨P,0,none⟩) hs.length (metT (exprT hs f) hs s l) ∧ Below w.heap.size w w':=by
 obtain ⟨i0,hi,hz0,hz1,hz2⟩:=info_parts infoTru
 have HH:=Lib.hid hH
 obtain ⟨na,nc,hlt,hcn,hrow⟩:=hH.get
 have HROW:=Lib.hid hrow
 have HCN:=Lib.hid hcn
 have HXS:=Lib.hid hx
 have HT:=Lib.hid hT
 have HG:Hid (∀ x ∈ s.wher,goodXB f x = true):=Lib.hid (List.all_eq_true.1 hg)
 have hcap:=hH.cap
 have HEX:=Lib.hid HX
 have HAND:Hid (∀ (p q:Int) W Q,W.heap[Q]? = some (.cells #[.int .i64 p,.int .i64 q] 48 (0,0)) → Calls Tryz.prog 65 #[.slice (some ⟨Q,0,none⟩) 2 2] W fun e w'=>e = .returned (.int .i64 (andL [p,q])) ∧ w' = W):=Lib.hid fun p q W Q h=>kAnd_any _ 2 2 [p,q] W (ts_two h) (by decide)
 have HANDD:Hid (∀ (p q:Int) (W:World) (Q:Nat),W.heap[Q]? = some (.cells #[.int .i64 p,.int .i64 q] 48 (0,0)) → Calls Tryz.prog 65 #[.slice (some ⟨Q,0,none⟩) 2 2] W.drew fun e w'=>e = .returned (.int .i64 (andL [p,q])) ∧ w' = W.drew):=Lib.hid fun p q W Q h=>HAND.out p q W.drew Q h
 obtain ⟨n,hnn⟩:∃ n,hs.length = n:=⟨_,rfl⟩
 have HN:=Lib.hid hnn
 have HL0:Hid (metK (exprT hs f) hs s l 0 = rowOf n fun k=>andL [(hs[k]?.map fun h=>testT h s).getD 0,l.getD k 0]):=Lib.hid (by rw [← hnn];rfl)
 have HTE:Hid (∀ k (hk:k < n) A m c' W,Calls Tryz.prog 84 #[.agg #[.int .i64 hs[k].ev.kind,.int .i64 hs[k].ev.num,.int .i64 hs[k].ev.dep,.string (strL hs[k].ev.name),.slice A m c',.string (strL hs[k].ev.text),.int .i64 hs[k].ev.fr,.int .i64 hs[k].ev.tt,.int .i64 hs[k].kd,.int .i64 hs[k].par,.bool hs[k].op,.string (strL hs[k].txt),.int .i64 hs[k].bg,.int .i64 hs[k].en],.agg #[.int .i64 s.axis,.int .i64 s.test,.string (strL s.name),.slice wa s.wher.length wc]] W fun e w'=>e = .returned (.int .i64 ((hs[k]?.map fun h=>testT h s).getD 0)) ∧ Below W.heap.size W w'):=Lib.hid fun k hk A m c' W=>by
  have hkl:k < hs.length:=by omega
  rw [List.getElem?_eq_getElem hkl]
  exact htest_any hs[k] A m c' s wa wc W
 unfold stepC
 rw [hnn] at hcap ⊢
 have HB1:Hid (∀ o,Below w.heap.size w (w.alloc o) ∧ (w.alloc o).heap[w.heap.size]? = some o ∧ (w.alloc o).heap.size = w.heap.size + 1):=Lib.hid fun o=>⟨(Below.refl w.heap.size w).alloc (Nat.le_refl _) _,heap_alloc_new w _,by simp⟩
 have hcw:=HCN.out w (Below.refl _ _)
 rw [hnn] at hcw
 have HMK:Hid (∀ w1,w1.ownsRow (w.heap.size + 1) 48 1 (.slice (some ⟨(w.alloc (.cells #[.int .i64 s.axis,.int .i64 s.test,.string (strL s.name),.slice wa s.wher.length wc] 76)).heap.size,0,none⟩) n n) n (madeCells (Value.int .i64 0).cells (n * 1)).toList → (w.alloc (.cells #[.int .i64 s.axis,.int .i64 s.test,.string (strL s.name),.slice wa s.wher.length wc] 76)).grownBy w1 none → MI w w.heap.size (.cells #[.int .i64 s.axis,.int .i64 s.test,.string (strL s.name),.slice wa s.wher.length wc] 76) (w.heap.size + 1) n (List.replicate n 0) w1 ∧ w1.cell? ⟨hb,1,none⟩ = some (.slice na n nc)):=Lib.hid fun w1 hown hgr=>by
  have hb1:=(HB1.out (.cells #[.int .i64 s.axis,.int .i64 s.test,.string (strL s.name),.slice wa s.wher.length wc] 76)).1.grown hgr (by simp) (fun k hk=>by cases hk)
  have hb2:=(Below.refl _ (w.alloc (.cells #[.int .i64 s.axis,.int .i64 s.test,.string (strL s.name),.slice wa s.wher.length wc] 76))).grown hgr (Nat.le_refl _) (fun k hk=>by cases hk)
  refine ⟨⟨hb1,(hb2.block _ (by simp)).trans (HB1.out _).2.1,by omega,by omega,?_,by simp⟩,by have:=HCN.out w1 hb1;rwa [hnn] at this⟩
  have h2:w1.ownsRow (w.heap.size + 1) 48 1 (.slice (some ⟨w.heap.size + 1,0,none⟩) n n) n (madeCells (Value.int .i64 0).cells n).toList:=by simpa using hown
  rw [show (Value.int .i64 0).cells = #[.int .i64 0] from rfl,tsC_zero] at h2
  exact h2
 clear hH hrow hcn hx hT hg HX
 go_enter Tryz.func50,Tryz.ntmps50
 go_wp2_with (at_make;go_must ((refine wpList_make_full _ (by rfl) _ _ 81 (by rfl) (w.heap.size + 1) 48 i0 _ 1 Tryz.underlying81 hi hz0 hz1 .i64 .i64 (n:Int) (n:Int) n (by rfl) (by rfl) rfl rfl (by rw [hz2];omega) (by unfold maxLen;omega) (by simp) (fun w1 hown hgr=>?_));have hc1:=(HMK.out w1 hown hgr).2))
 have HMI:=Lib.hid (HMK.out w1 hown hgr).1
 clear hown hgr
 generalize hP:w.heap.size + 1 = P at *
 go_loopw [25] (fun iv wr=>∃ k:Nat,iv = .int .i64 k ∧ k ≤ n ∧ Hid (MI w w.heap.size (.cells #[.int .i64 s.axis,.int .i64 s.test,.string (strL s.name),.slice wa s.wher.length wc] 76) P n (mixR n k (fun k=>andL [(hs[k]?.map fun h=>testT h s).getD 0,l.getD k 0]) (fun _=>0)) wr)) (fun iv _=>n - (intOf iv).toNat)
 case atStart=>exact ⟨0,rfl,Nat.zero_le _,Lib.hid (by rw [mixR_zero];have:=HMI.out;rwa [← rowOf_self n (List.replicate n 0) (by simp),show (rowOf n fun j=>(List.replicate n (0:Int)).getD j 0) = rowOf n fun _=>0 from rowOf_congr fun j hj=>by simp [hj]] at this)⟩
 case round =>
  obtain ⟨k,rfl,hk,HM⟩:=hrel
  by_cases hkn:k < n
  ·obtain ⟨b,o,A,m,c',rfl,hbl,hm,hA,hat,htx,hcells⟩:=HROW.out k (by rw [HN.out];exact hkn)
   obtain ⟨e0,e1,e2,e3,e4,e5,e6,e7,e8,e9,e10,e11,e12,e13⟩:=hcells wr HM.out.old
   have HTK:Hid (∀ W,Calls Tryz.prog 84 #[.agg #[.int .i64 hs[k].ev.kind,.int .i64 hs[k].ev.num,.int .i64 hs[k].ev.dep,.string (strL hs[k].ev.name),.slice A m c',.string (strL hs[k].ev.text),.int .i64 hs[k].ev.fr,.int .i64 hs[k].ev.tt,.int .i64 hs[k].kd,.int .i64 hs[k].par,.bool hs[k].op,.string (strL hs[k].txt),.int .i64 hs[k].bg,.int .i64 hs[k].en],.agg #[.int .i64 s.axis,.int .i64 s.test,.string (strL s.name),.slice wa s.wher.length wc]] W fun e w'=>e = .returned (.int .i64 ((hs[k]?.map fun h=>testT h s).getD 0)) ∧ Below W.heap.size W w'):=Lib.hid fun W=>HTE.out k hkn A m c' W
   obtain ⟨lb,lo,rfl,hlb,hlc⟩:=HT.out.get k (by rw [HN.out];exact hkn)
   have HLC:=Lib.hid hlc
   have HNX:Hid (∀ W,MI w w.heap.size (.cells #[.int .i64 s.axis,.int .i64 s.test,.string (strL s.name),.slice wa s.wher.length wc] 76) P n (mixR n k (fun k=>andL [(hs[k]?.map fun h=>testT h s).getD 0,l.getD k 0]) (fun _=>0)) W → MI w w.heap.size (.cells #[.int .i64 s.axis,.int .i64 s.test,.string (strL s.name),.slice wa s.wher.length wc] 76) P n (mixR n (k + 1) (fun k=>andL [(hs[k]?.map fun h=>testT h s).getD 0,l.getD k 0]) (fun _=>0)) (W.setCell ⟨P,k,none⟩ (.int .i64 (andL [(hs[k]?.map fun h=>testT h s).getD 0,l.getD k 0])))):=Lib.hid fun W hW=>by
    have:=hW.set k (andL [(hs[k]?.map fun h=>testT h s).getD 0,l.getD k 0])
    rwa [mixR_set _ _ _ _ _ rfl] at this
   clear hcells hA hat hm htx hlc
   generalize hs[k]'(by rw [HN.out];exact hkn) = hn at *
   generalize (hs[k]?.map fun h=>testT h s).getD 0 = tv at *
   generalize l.getD k 0 = lv at *
   have i2:(0:Int) ≤ (k:Int):=by omega
   have i3:(k:Int) < (n:Int):=by omega
   have ewi:IntKind.i64.wrap ((k:Int) + 1) = (k:Int) + 1:=IntWalk.i64_in _ (by omega)
   have hkb:=(Below.refl wr.heap.size wr).alloc (Nat.le_refl _) (.cells #[.int .i64 hn.ev.kind,.int .i64 hn.ev.num,.int .i64 hn.ev.dep,.string (strL hn.ev.name),.slice A m c',.string (strL hn.ev.text),.int .i64 hn.ev.fr,.int .i64 hn.ev.tt,.int .i64 hn.kd,.int .i64 hn.par,.bool hn.op,.string (strL hn.txt),.int .i64 hn.bg,.int .i64 hn.en] 99)
   have hm2:=HM.out.below hkb
   have hnb:=heap_alloc_new wr (.cells #[.int .i64 hn.ev.kind,.int .i64 hn.ev.num,.int .i64 hn.ev.dep,.string (strL hn.ev.name),.slice A m c',.string (strL hn.ev.text),.int .i64 hn.ev.fr,.int .i64 hn.ev.tt,.int .i64 hn.kd,.int .i64 hn.par,.bool hn.op,.string (strL hn.txt),.int .i64 hn.bg,.int .i64 hn.en] 99)
   have HAFT:Hid (∀ W,Below (wr.alloc (.cells #[.int .i64 hn.ev.kind,.int .i64 hn.ev.num,.int .i64 hn.ev.dep,.string (strL hn.ev.name),.slice A m c',.string (strL hn.ev.text),.int .i64 hn.ev.fr,.int .i64 hn.ev.tt,.int .i64 hn.kd,.int .i64 hn.par,.bool hn.op,.string (strL hn.txt),.int .i64 hn.bg,.int .i64 hn.en] 99)).heap.size (wr.alloc (.cells #[.int .i64 hn.ev.kind,.int .i64 hn.ev.num,.int .i64 hn.ev.dep,.string (strL hn.ev.name),.slice A m c',.string (strL hn.ev.text),.int .i64 hn.ev.fr,.int .i64 hn.ev.tt,.int .i64 hn.kd,.int .i64 hn.par,.bool hn.op,.string (strL hn.txt),.int .i64 hn.bg,.int .i64 hn.en] 99)) W → MI w w.heap.size (.cells #[.int .i64 s.axis,.int .i64 s.test,.string (strL s.name),.slice wa s.wher.length wc] 76) P n (mixR n k (fun k=>andL [(hs[k]?.map fun h=>testT h s).getD 0,l.getD k 0]) (fun _=>0)) W):=Lib.hid fun W hW=>hm2.below hW
   have s0:(wr.alloc (.cells #[.int .i64 hn.ev.kind,.int .i64 hn.ev.num,.int .i64 hn.ev.dep,.string (strL hn.ev.name),.slice A m c',.string (strL hn.ev.text),.int .i64 hn.ev.fr,.int .i64 hn.ev.tt,.int .i64 hn.kd,.int .i64 hn.par,.bool hn.op,.string (strL hn.txt),.int .i64 hn.bg,.int .i64 hn.en] 99)).cell? ⟨w.heap.size,0,none⟩ = some (.int .i64 s.axis):=by rw [cell_heap hm2.box];rfl
   have s1:(wr.alloc (.cells #[.int .i64 hn.ev.kind,.int .i64 hn.ev.num,.int .i64 hn.ev.dep,.string (strL hn.ev.name),.slice A m c',.string (strL hn.ev.text),.int .i64 hn.ev.fr,.int .i64 hn.ev.tt,.int .i64 hn.kd,.int .i64 hn.par,.bool hn.op,.string (strL hn.txt),.int .i64 hn.bg,.int .i64 hn.en] 99)).cell? ⟨w.heap.size,1,none⟩ = some (.int .i64 s.test):=by rw [cell_heap hm2.box];rfl
   have s2:(wr.alloc (.cells #[.int .i64 hn.ev.kind,.int .i64 hn.ev.num,.int .i64 hn.ev.dep,.string (strL hn.ev.name),.slice A m c',.string (strL hn.ev.text),.int .i64 hn.ev.fr,.int .i64 hn.ev.tt,.int .i64 hn.kd,.int .i64 hn.par,.bool hn.op,.string (strL hn.txt),.int .i64 hn.bg,.int .i64 hn.en] 99)).cell? ⟨w.heap.size,2,none⟩ = some (.string (strL s.name)):=by rw [cell_heap hm2.box];rfl
   have s3:(wr.alloc (.cells #[.int .i64 hn.ev.kind,.int .i64 hn.ev.num,.int .i64 hn.ev.dep,.string (strL hn.ev.name),.slice A m c',.string (strL hn.ev.text),.int .i64 hn.ev.fr,.int .i64 hn.ev.tt,.int .i64 hn.kd,.int .i64 hn.par,.bool hn.op,.string (strL hn.txt),.int .i64 hn.bg,.int .i64 hn.en] 99)).cell? ⟨w.heap.size,3,none⟩ = some (.slice wa s.wher.length wc):=by rw [cell_heap hm2.box];rfl
   have z0:=HLC.out _ hm2.old
   have hlt2:w.heap.size < (wr.alloc (.cells #[.int .i64 hn.ev.kind,.int .i64 hn.ev.num,.int .i64 hn.ev.dep,.string (strL hn.ev.name),.slice A m c',.string (strL hn.ev.text),.int .i64 hn.ev.fr,.int .i64 hn.ev.tt,.int .i64 hn.kd,.int .i64 hn.par,.bool hn.op,.string (strL hn.txt),.int .i64 hn.bg,.int .i64 hn.en] 99)).heap.size:=by have:=hm2.old.size;have:=HM.out.old.size;simp;omega
   have hlt3:P < (wr.alloc (.cells #[.int .i64 hn.ev.kind,.int .i64 hn.ev.num,.int .i64 hn.ev.dep,.string (strL hn.ev.name),.slice A m c',.string (strL hn.ev.text),.int .i64 hn.ev.fr,.int .i64 hn.ev.tt,.int .i64 hn.kd,.int .i64 hn.par,.bool hn.op,.string (strL hn.txt),.int .i64 hn.bg,.int .i64 hn.en] 99)).heap.size:=(hm2.own.lt _ rfl).2
   have n0:(wr.alloc (.cells #[.int .i64 hn.ev.kind,.int .i64 hn.ev.num,.int .i64 hn.ev.dep,.string (strL hn.ev.name),.slice A m c',.string (strL hn.ev.text),.int .i64 hn.ev.fr,.int .i64 hn.ev.tt,.int .i64 hn.kd,.int .i64 hn.par,.bool hn.op,.string (strL hn.txt),.int .i64 hn.bg,.int .i64 hn.en] 99)).cell? ⟨wr.heap.size,0,none⟩ = some (.int .i64 hn.ev.kind):=by rw [cell_heap hnb];rfl
   have n1:(wr.alloc (.cells #[.int .i64 hn.ev.kind,.int .i64 hn.ev.num,.int .i64 hn.ev.dep,.string (strL hn.ev.name),.slice A m c',.string (strL hn.ev.text),.int .i64 hn.ev.fr,.int .i64 hn.ev.tt,.int .i64 hn.kd,.int .i64 hn.par,.bool hn.op,.string (strL hn.txt),.int .i64 hn.bg,.int .i64 hn.en] 99)).cell? ⟨wr.heap.size,1,none⟩ = some (.int .i64 hn.ev.num):=by rw [cell_heap hnb];rfl
   have n2:(wr.alloc (.cells #[.int .i64 hn.ev.kind,.int .i64 hn.ev.num,.int .i64 hn.ev.dep,.string (strL hn.ev.name),.slice A m c',.string (strL hn.ev.text),.int .i64 hn.ev.fr,.int .i64 hn.ev.tt,.int .i64 hn.kd,.int .i64 hn.par,.bool hn.op,.string (strL hn.txt),.int .i64 hn.bg,.int .i64 hn.en] 99)).cell? ⟨wr.heap.size,2,none⟩ = some (.int .i64 hn.ev.dep):=by rw [cell_heap hnb];rfl
   have n3:(wr.alloc (.cells #[.int .i64 hn.ev.kind,.int .i64 hn.ev.num,.int .i64 hn.ev.dep,.string (strL hn.ev.name),.slice A m c',.string (strL hn.ev.text),.int .i64 hn.ev.fr,.int .i64 hn.ev.tt,.int .i64 hn.kd,.int .i64 hn.par,.bool hn.op,.string (strL hn.txt),.int .i64 hn.bg,.int .i64 hn.en] 99)).cell? ⟨wr.heap.size,3,none⟩ = some (.string (strL hn.ev.name)):=by rw [cell_heap hnb];rfl
   have n4:(wr.alloc (.cells #[.int .i64 hn.ev.kind,.int .i64 hn.ev.num,.int .i64 hn.ev.dep,.string (strL hn.ev.name),.slice A m c',.string (strL hn.ev.text),.int .i64 hn.ev.fr,.int .i64 hn.ev.tt,.int .i64 hn.kd,.int .i64 hn.par,.bool hn.op,.string (strL hn.txt),.int .i64 hn.bg,.int .i64 hn.en] 99)).cell? ⟨wr.heap.size,4,none⟩ = some (.slice A m c'):=by rw [cell_heap hnb];rfl
   have n5:(wr.alloc (.cells #[.int .i64 hn.ev.kind,.int .i64 hn.ev.num,.int .i64 hn.ev.dep,.string (strL hn.ev.name),.slice A m c',.string (strL hn.ev.text),.int .i64 hn.ev.fr,.int .i64 hn.ev.tt,.int .i64 hn.kd,.int .i64 hn.par,.bool hn.op,.string (strL hn.txt),.int .i64 hn.bg,.int .i64 hn.en] 99)).cell? ⟨wr.heap.size,5,none⟩ = some (.string (strL hn.ev.text)):=by rw [cell_heap hnb];rfl
   have n6:(wr.alloc (.cells #[.int .i64 hn.ev.kind,.int .i64 hn.ev.num,.int .i64 hn.ev.dep,.string (strL hn.ev.name),.slice A m c',.string (strL hn.ev.text),.int .i64 hn.ev.fr,.int .i64 hn.ev.tt,.int .i64 hn.kd,.int .i64 hn.par,.bool hn.op,.string (strL hn.txt),.int .i64 hn.bg,.int .i64 hn.en] 99)).cell? ⟨wr.heap.size,6,none⟩ = some (.int .i64 hn.ev.fr):=by rw [cell_heap hnb];rfl
   have n7:(wr.alloc (.cells #[.int .i64 hn.ev.kind,.int .i64 hn.ev.num,.int .i64 hn.ev.dep,.string (strL hn.ev.name),.slice A m c',.string (strL hn.ev.text),.int .i64 hn.ev.fr,.int .i64 hn.ev.tt,.int .i64 hn.kd,.int .i64 hn.par,.bool hn.op,.string (strL hn.txt),.int .i64 hn.bg,.int .i64 hn.en] 99)).cell? ⟨wr.heap.size,7,none⟩ = some (.int .i64 hn.ev.tt):=by rw [cell_heap hnb];rfl
   have n8:(wr.alloc (.cells #[.int .i64 hn.ev.kind,.int .i64 hn.ev.num,.int .i64 hn.ev.dep,.string (strL hn.ev.name),.slice A m c',.string (strL hn.ev.text),.int .i64 hn.ev.fr,.int .i64 hn.ev.tt,.int .i64 hn.kd,.int .i64 hn.par,.bool hn.op,.string (strL hn.txt),.int .i64 hn.bg,.int .i64 hn.en] 99)).cell? ⟨wr.heap.size,8,none⟩ = some (.int .i64 hn.kd):=by rw [cell_heap hnb];rfl
   have n9:(wr.alloc (.cells #[.int .i64 hn.ev.kind,.int .i64 hn.ev.num,.int .i64 hn.ev.dep,.string (strL hn.ev.name),.slice A m c',.string (strL hn.ev.text),.int .i64 hn.ev.fr,.int .i64 hn.ev.tt,.int .i64 hn.kd,.int .i64 hn.par,.bool hn.op,.string (strL hn.txt),.int .i64 hn.bg,.int .i64 hn.en] 99)).cell? ⟨wr.heap.size,9,none⟩ = some (.int .i64 hn.par):=by rw [cell_heap hnb];rfl
   have n10:(wr.alloc (.cells #[.int .i64 hn.ev.kind,.int .i64 hn.ev.num,.int .i64 hn.ev.dep,.string (strL hn.ev.name),.slice A m c',.string (strL hn.ev.text),.int .i64 hn.ev.fr,.int .i64 hn.ev.tt,.int .i64 hn.kd,.int .i64 hn.par,.bool hn.op,.string (strL hn.txt),.int .i64 hn.bg,.int .i64 hn.en] 99)).cell? ⟨wr.heap.size,10,none⟩ = some (.bool hn.op):=by rw [cell_heap hnb];rfl
   have n11:(wr.alloc (.cells #[.int .i64 hn.ev.kind,.int .i64 hn.ev.num,.int .i64 hn.ev.dep,.string (strL hn.ev.name),.slice A m c',.string (strL hn.ev.text),.int .i64 hn.ev.fr,.int .i64 hn.ev.tt,.int .i64 hn.kd,.int .i64 hn.par,.bool hn.op,.string (strL hn.txt),.int .i64 hn.bg,.int .i64 hn.en] 99)).cell? ⟨wr.heap.size,11,none⟩ = some (.string (strL hn.txt)):=by rw [cell_heap hnb];rfl
   have n12:(wr.alloc (.cells #[.int .i64 hn.ev.kind,.int .i64 hn.ev.num,.int .i64 hn.ev.dep,.string (strL hn.ev.name),.slice A m c',.string (strL hn.ev.text),.int .i64 hn.ev.fr,.int .i64 hn.ev.tt,.int .i64 hn.kd,.int .i64 hn.par,.bool hn.op,.string (strL hn.txt),.int .i64 hn.bg,.int .i64 hn.en] 99)).cell? ⟨wr.heap.size,12,none⟩ = some (.int .i64 hn.bg):=by rw [cell_heap hnb];rfl
   have n13:(wr.alloc (.cells #[.int .i64 hn.ev.kind,.int .i64 hn.ev.num,.int .i64 hn.ev.dep,.string (strL hn.ev.name),.slice A m c',.string (strL hn.ev.text),.int .i64 hn.ev.fr,.int .i64 hn.ev.tt,.int .i64 hn.kd,.int .i64 hn.par,.bool hn.op,.string (strL hn.txt),.int .i64 hn.bg,.int .i64 hn.en] 99)).cell? ⟨wr.heap.size,13,none⟩ = some (.int .i64 hn.en):=by rw [cell_heap hnb];rfl
   clear hkb hm2 hnb
   go_wp2_with fail
   generalize wr.alloc (.cells #[.int .i64 hn.ev.kind,.int .i64 hn.ev.num,.int .i64 hn.ev.dep,.string (strL hn.ev.name),.slice A m c',.string (strL hn.ev.text),.int .i64 hn.ev.fr,.int .i64 hn.ev.tt,.int .i64 hn.kd,.int .i64 hn.par,.bool hn.op,.string (strL hn.txt),.int .i64 hn.bg,.int .i64 hn.en] 99) = w2 at *
   generalize wr.heap.size = Q at *
   clear e0 e1 e2 e3 e4 e5 e6 e7 e8 e9 e10 e11 e12 e13
   have HEXI:Hid (∀ W,MI w w.heap.size (.cells #[.int .i64 s.axis,.int .i64 s.test,.string (strL s.name),.slice wa s.wher.length wc] 76) P n (mixR n k (fun k=>andL [(hs[k]?.map fun h=>testT h s).getD 0,l.getD k 0]) (fun _=>0)) W → W.cell? ⟨lb,lo + k,none⟩ = some (.int .i64 lv) ∧ P < W.heap.size ∧ W.frozen? ⟨P,k,none⟩ = false ∧ lb < W.heap.size ∧ ∃ x,W.cell? ⟨P,k,none⟩ = some x):=Lib.hid fun W hW=>⟨HLC.out W hW.old,(hW.own.lt _ rfl).2,hW.frozen k,Nat.lt_of_lt_of_le hlb hW.old.size,⟨_,hW.at k hkn⟩⟩
   obtain ⟨_,_,f0,hlb2,x0,y0⟩:=HEXI.out w2 (HAFT.out w2 (Below.refl _ _))
   go_region_with (first | (go_at_call 84;(with_reducible refine (HTK.out _).mono ?_);rintro e w5 ⟨rfl,hb5⟩;have hm5:=HAFT.out w5 ((Below.refl _ _).drew.trans hb5);obtain ⟨z5,p5,f5,l5,x5,y5⟩:=HEXI.out w5 hm5) | (go_at_call 65;(with_reducible refine (HAND.out tv lv _ _ (heap_alloc_new _ _)).mono ?_);rintro e w6 ⟨rfl,rfl⟩))
   all_goals
    go_wp2_with fail
    go_roundw
    case rel=>exact ⟨k + 1,by go_num,by omega,Lib.hid ((HNX.out _ hm5).below ((Below.refl _ _).alloc (Nat.le_refl _) _))⟩
    case measure=>simp [intOf];omega
  ·have hk2:k = n:=by omega
   subst hk2
   have HM2:Hid (MI w w.heap.size (.cells #[.int .i64 s.axis,.int .i64 s.test,.string (strL s.name),.slice wa s.wher.length wc] 76) P k (metK (exprT hs f) hs s l 0) wr):=Lib.hid (by have:=HM.out;rw [mixR_all] at this;rw [HL0.out];exact this)
   have s3:wr.cell? ⟨w.heap.size,3,none⟩ = some (.slice wa s.wher.length wc):=by rw [cell_heap HM2.out.box];rfl
   clear HM HTE HL0 HMK hk hkn HT HROW HCN HMI
   go_wp2_with fail
   go_loopw [46] (fun jv wr=>∃ j:Nat,jv = .int .i64 j ∧ j ≤ s.wher.length ∧ Hid (MI w w.heap.size (.cells #[.int .i64 s.axis,.int .i64 s.test,.string (strL s.name),.slice wa s.wher.length wc] 76) P k (metK (exprT hs f) hs s l j) wr)) (fun jv _=>s.wher.length - (intOf jv).toNat)
   case atStart=>exact ⟨0,rfl,Nat.zero_le _,HM2⟩
   case round =>
    obtain ⟨j,rfl,hjq,HJ⟩:=hrel
    by_cases hjl:j < s.wher.length
    ·obtain ⟨b2,o2,ya,yc,yp,yd,rfl,hb2,hxa,hcs⟩:=HXS.out.get' j hjl
     obtain ⟨x0,x1,x2,x3,x4,x5,x6⟩:=hcs wr HJ.out.old
     have HDX:Hid (∀ W,Below w.heap.size w W → Calls Tryz.prog 35 #[.pointer (some ⟨hb,0,none⟩),.agg (exprC s.wher[j] ya yc yp yd).toArray] W fun e w'=>∃ P2,e = .returned (.slice (some ⟨P2,0,none⟩) k k) ∧ W.heap.size ≤ P2 ∧ TsAt w' (some ⟨P2,0,none⟩) k (exprT hs f s.wher[j]) ∧ Below W.heap.size W w'):=Lib.hid fun W hW=>by
      have:=HEX.out s.wher[j] _ W (HH.out.below hW) (XAt.turn hW (Nat.le_refl _) hxa) (HG.out _ (List.getElem_mem hjl))
      rw [HN.out] at this;exact this
     have HSC:Hid (metK (exprT hs f) hs s l (j + 1) = rowOf k fun i=>andL [(metK (exprT hs f) hs s l j).getD i 0,(exprT hs f s.wher[j]).getD i 0]):=Lib.hid (by rw [metK_succ _ _ _ _ _ hjl,HN.out])
     clear hcs hxa hb2
     generalize exprT hs f s.wher[j] = te at *
     generalize s.wher[j] = y at *
     generalize metK (exprT hs f) hs s l j = ml at *
     unfold exprC at HDX
     have i3:(0:Int) ≤ (j:Int):=by omega
     have i4:(j:Int) < (s.wher.length:Int):=by omega
     have ewj:IntKind.i64.wrap ((j:Int) + 1) = (j:Int) + 1:=IntWalk.i64_in _ (by omega)
     have HB15:Hid (∀ o,MI w w.heap.size (.cells #[.int .i64 s.axis,.int .i64 s.test,.string (strL s.name),.slice (some ⟨b2,o2,none⟩) s.wher.length wc] 76) P k ml (wr.alloc o)):=Lib.hid fun o=>HJ.out.below ((Below.refl _ _).alloc (Nat.le_refl _) _)
     go_wp2_with fail
     (with_reducible refine (HDX.out _ (HB15.out _).old).mono ?_)
     rintro e w15 ⟨P2,rfl,hP2,hts,hb15⟩
     have HM15:=Lib.hid ((HB15.out _).below hb15)
     have HTS:=Lib.hid hts
     have HNE:Hid (P ≠ P2):=Lib.hid (by have h:P < _:=((HB15.out (.cells #[.int .i64 y.op,.slice ya y.args.length yc,.slice yp y.path.length yd,.string (strL y.attr),.int .i64 y.cmp,.string (strL y.text),.int .i64 y.num] 42)).own.lt P rfl).2;omega)
     clear hb15 hts hP2
     go_wp2_with fail
     go_loopw [55] (fun iv wr=>∃ i:Nat,iv = .int .i64 i ∧ i ≤ k ∧ Hid (MI w w.heap.size (.cells #[.int .i64 s.axis,.int .i64 s.test,.string (strL s.name),.slice (some ⟨b2,o2,none⟩) s.wher.length wc] 76) P k (mixR k i (fun i=>andL [ml.getD i 0,te.getD i 0]) (fun i=>ml.getD i 0)) wr ∧ TsAt wr (some ⟨P2,0,none⟩) k te)) (fun iv _=>k - (intOf iv).toNat)
     case atStart=>exact ⟨0,rfl,Nat.zero_le _,Lib.hid ⟨by rw [mixR_zero,rowOf_self _ _ HM15.out.len];exact HM15.out,HTS.out⟩⟩
     case round =>
      obtain ⟨i,rfl,hik,HI⟩:=hrel
      by_cases hikn:i < k
      ·have z0:wr.cell? ⟨P,i,none⟩ = some (.int .i64 (ml.getD i 0)):=by
        have h1:=HI.out.1.at i hikn
        rwa [List.getD_eq_getElem?_getD,mixR_get _ _ _ _ _ hikn (Nat.le_refl _),Option.getD_some] at h1
       obtain ⟨z1,hl1⟩:=HI.out.2.at0 i hikn
       have hl0:=(HI.out.1.own.lt _ rfl).2
       have hf0:=HI.out.1.frozen i
       have HNX:Hid (∀ W,Below (wr.setCell ⟨P,i,none⟩ (.int .i64 (andL [ml.getD i 0,te.getD i 0]))).heap.size (wr.setCell ⟨P,i,none⟩ (.int .i64 (andL [ml.getD i 0,te.getD i 0]))) W → MI w w.heap.size (.cells #[.int .i64 s.axis,.int .i64 s.test,.string (strL s.name),.slice (some ⟨b2,o2,none⟩) s.wher.length wc] 76) P k (mixR k (i + 1) (fun i=>andL [ml.getD i 0,te.getD i 0]) (fun i=>ml.getD i 0)) W ∧ TsAt W (some ⟨P2,0,none⟩) k te):=Lib.hid fun W hW=>by
        have h1:=HI.out.1.set i (andL [ml.getD i 0,te.getD i 0])
        rw [mixR_set _ _ _ _ _ rfl] at h1
        exact ⟨h1.below hW,(HI.out.2.far (fun ad h=>by cases h;exact fun e=>HNE.out e.symm) _).below hW⟩
       generalize ml.getD i 0 = mv at *
       generalize te.getD i 0 = tv at *
       have i5:(0:Int) ≤ (i:Int):=by omega
       have i6:(i:Int) < (k:Int):=by omega
       have ewi:IntKind.i64.wrap ((i:Int) + 1) = (i:Int) + 1:=IntWalk.i64_in _ (by omega)
       go_wp2_with fail
       go_region_with (first | (go_at_call 65;(with_reducible refine (HANDD.out mv tv _ _ (heap_alloc_new _ _)).mono ?_);rintro e w6 ⟨rfl,rfl⟩))
       all_goals
        go_wp2_with fail
        go_roundw
        case rel=>exact ⟨i + 1,by go_num,by omega,Lib.hid (HNX.out _ (((Below.refl _ _).alloc (Nat.le_refl _) _).drew))⟩
        case measure=>simp [intOf];omega
      ·have hi2:i = k:=by omega
       subst hi2
       have HM3:Hid (MI w w.heap.size (.cells #[.int .i64 s.axis,.int .i64 s.test,.string (strL s.name),.slice (some ⟨b2,o2,none⟩) s.wher.length wc] 76) P i (metK (exprT hs f) hs s l (j + 1)) wr):=Lib.hid (by have:=HI.out.1;rw [mixR_all] at this;rw [HSC.out];exact this)
       go_wp2_with fail
       go_roundw
       case rel=>exact ⟨j + 1,by go_num,by omega,HM3⟩
       case measure=>simp [intOf];omega
    ·have hj2:j = s.wher.length:=by omega
     subst hj2
     have HF:=Lib.hid HJ.out
     rw [metK_all] at HF
     go_wp2_with fail
     go_ret
     exact ⟨P,rfl,HF.out.lo,HF.out.ts,HF.out.old⟩
end Go.Proofs.YtgjokdngbocehaaGreatDoor
namespace Go.Proofs.YtgjokdngbocehaaGreatDoor
open Go.RowKit
def opT (hs:List HN) (k:Nat):Int:=if (hs[k]?.map fun (h:HN)=>h.op).getD false then 1 else 0
theorem opT_at {hs:List HN} {k:Nat} (h:k < hs.length):opT hs k = if hs[k].op then 1 else 0:=by unfold opT;rw [List.getElem?_eq_getElem h];rfl
theorem rep_mix (n:Nat) (g:Nat → Int):List.replicate n (0:Int) = mixR n 0 g (fun _=>0):=by
 rw [mixR_zero]
 refine List.ext_getElem (by rw [List.length_replicate,rowOf_len]) fun i h1 h2=>?_
 rw [rowOf_get];simp
theorem cdAll_top {hs:List HN} {n:Nat} (h:hs.length = n) (he:List Int):cdAll hs he n = (rowOf n (opT hs),rowOf n (opT hs)):=by subst h;exact cdAll_end hs he
theorem cdAll_at {hs:List HN} (he:List Int) (i p:Nat) (hi:i < hs.length) (hp:hs[i].par = (p:Int)):cdAll hs he i = ((cdAll hs he (i + 1)).1.set p (orL [(cdAll hs he (i + 1)).1.getD p 0,he.getD i 0]),(cdAll hs he (i + 1)).2.set p (orL [(cdAll hs he (i + 1)).2.getD p 0,he.getD i 0,(cdAll hs he (i + 1)).2.getD i 0])):=by
 rw [cdAll_step hs he i hi]
 unfold cdStep
 rw [List.getElem?_eq_getElem hi]
 simp only [Option.map_some,Option.getD_some,hp,Int.toNat_natCast]
set_option maxRecDepth 100000 in
set_option maxHeartbeats 8000000 in
theorem back_any {hb:Nat} {hs:List HN} {f:Nat} (HX:HalfX hb hs f) (s:PS) (wa:Option Addr) (wn:Nat) (a:Option Addr) (c:Nat) (l:List Int) (w:World) (hH:HAt w hb hs) (hx:XsAt f w wa s.wher) (hn:s.wher.length ≤ 1048576) (hg:s.wher.all (goodXB f) = true) (hT:TsAt w a hs.length l) :
  Calls Tryz.prog 64 #[.pointer (some ⟨hb,0,none⟩),.agg (stepC s wa wn).toArray,.slice a hs.length c] w fun e w'=>∃ P,e = .returned (.slice (some ⟨P,0,none⟩) hs.length hs.length) ∧ w.heap.size ≤ P ∧ TsAt w' (some ⟨P,0,none⟩) hs.length (backT (exprT hs f) hs s l) ∧ Below w.heap.size w w':=by
 obtain ⟨i0,hi,hz0,hz1,hz2⟩:=info_parts infoTru
 have HH:=Lib.hid hH
 obtain ⟨na,nc,hlt,hcn,hrow⟩:=hH.get
 have HROW:=Lib.hid hrow
 have HPAR:=Lib.hid hH.par
 have hcap:=hH.cap
 have hpos:=hH.pos
 have HOR2:Hid (∀ (p q:Int) (W:World) (Q:Nat),W.heap[Q]? = some (.cells #[.int .i64 p,.int .i64 q] 48 (0,0)) → Calls Tryz.prog 49 #[.slice (some ⟨Q,0,none⟩) 2 2] W.drew fun e w'=>e = .returned (.int .i64 (orL [p,q])) ∧ w' = W.drew):=Lib.hid fun p q W Q h=>kOr_any _ 2 2 [p,q] W.drew (ts_two h) (by decide)
 have HOR3:Hid (∀ (p q r:Int) (W:World) (Q:Nat),W.heap[Q]? = some (.cells #[.int .i64 p,.int .i64 q,.int .i64 r] 48 (0,0)) → Calls Tryz.prog 49 #[.slice (some ⟨Q,0,none⟩) 3 3] W.drew fun e w'=>e = .returned (.int .i64 (orL [p,q,r])) ∧ w' = W.drew):=Lib.hid fun p q r W Q h=>kOr_any _ 3 3 [p,q,r] W.drew (ts_three h) (by decide)
 obtain ⟨n,hnn⟩:∃ n,hs.length = n:=⟨_,rfl⟩
 have HN:=Lib.hid hnn
 have HCN:Hid (∀ W,Below w.heap.size w W → W.cell? ⟨hb,1,none⟩ = some (.slice na n nc)):=Lib.hid (by rw [← hnn];exact hcn)
 obtain ⟨he,hhe⟩:∃ he,metT (exprT hs f) hs s l = he:=⟨_,rfl⟩
 have HBT:Hid (backT (exprT hs f) hs s l = if s.axis = 3 then he else if s.axis = 0 then (cdAll hs he 1).1 else if s.axis = 2 then rowOf n fun k=>orL [(cdAll hs he 1).2.getD k 0,he.getD k 0] else (cdAll hs he 1).2):=Lib.hid (by unfold backT;simp only [hhe,hnn])
 have HME:Hid (∀ W,Below w.heap.size w W → Calls Tryz.prog 50 #[.pointer (some ⟨hb,0,none⟩),.agg #[.int .i64 s.axis,.int .i64 s.test,.string (strL s.name),.slice wa s.wher.length wn],.slice a n c] W fun e w'=>∃ P,e = .returned (.slice (some ⟨P,0,none⟩) n n) ∧ W.heap.size ≤ P ∧ TsAt w' (some ⟨P,0,none⟩) n he ∧ Below W.heap.size W w'):=Lib.hid fun W hW=>by
  have:=met_any HX s wa wn a c l W (hH.below hW) (hx.below hW) hn hg (hT.below hW)
  rw [hnn,hhe] at this;exact this
 have HB1:Hid (∀ o,Below w.heap.size w (w.alloc o) ∧ (w.alloc o).heap[w.heap.size]? = some o ∧ (w.alloc o).heap.size = w.heap.size + 1):=Lib.hid fun o=>⟨(Below.refl w.heap.size w).alloc (Nat.le_refl _) _,heap_alloc_new w _,by simp⟩
 obtain ⟨R,hR⟩:∃ R,backT (exprT hs f) hs s l = R:=⟨_,rfl⟩
 rw [hR,hnn]
 rw [hR] at HBT
 rw [hnn] at hcap hpos
 unfold stepC
 clear hR hH hrow hcn hx hT hg HX hhe
 go_enter Tryz.func64,Tryz.ntmps64
 go_wp2_with fail
 (with_reducible refine (HME.out _ (HB1.out _).1).mono ?_)
 rintro e w1 ⟨P0,rfl,hP0,hts,hb1⟩
 have hbox1:=(hb1.block w.heap.size (by rw [(HB1.out (.cells #[.int .i64 s.axis,.int .i64 s.test,.string (strL s.name),.slice wa s.wher.length wn] 76)).2.2];omega)).trans (HB1.out (.cells #[.int .i64 s.axis,.int .i64 s.test,.string (strL s.name),.slice wa s.wher.length wn] 76)).2.1
 have hold1:=(HB1.out (.cells #[.int .i64 s.axis,.int .i64 s.test,.string (strL s.name),.slice wa s.wher.length wn] 76)).1.trans (hb1.mono (HB1.out (.cells #[.int .i64 s.axis,.int .i64 s.test,.string (strL s.name),.slice wa s.wher.length wn] 76)).1.size)
 have hlo:w.heap.size ≤ P0:=by rw [(HB1.out (.cells #[.int .i64 s.axis,.int .i64 s.test,.string (strL s.name),.slice wa s.wher.length wn] 76)).2.2] at hP0;omega
 have a0:w1.cell? ⟨w.heap.size,0,none⟩ = some (.int .i64 s.axis):=by rw [cell_heap hbox1];rfl
 by_cases h3:s.axis = 3
 ·rw [if_pos h3] at HBT
  have HF:=Lib.hid (⟨hlo,hts,hold1⟩:_ ∧ _ ∧ _)
  clear hts hold1 hbox1 hb1
  generalize s.axis = ax at *
  subst h3
  go_wp2_with fail
  go_ret
  exact ⟨P0,rfl,HF.out.1,by rw [HBT.out];exact HF.out.2.1,HF.out.2.2⟩
 rw [if_neg h3] at HBT
 have t3:((s.axis:Int) == 3) = false:=by simpa using h3
 have HMK2:Hid (∀ w2,w2.ownsRow w1.heap.size 48 1 (.slice (some ⟨w1.heap.size,0,none⟩) n n) n (madeCells (Value.int .i64 0).cells (n * 1)).toList → w1.grownBy w2 none → MI w w.heap.size (.cells #[.int .i64 s.axis,.int .i64 s.test,.string (strL s.name),.slice wa s.wher.length wn] 76) w1.heap.size n (List.replicate n 0) w2 ∧ TsAt w2 (some ⟨P0,0,none⟩) n he ∧ P0 < w1.heap.size ∧ w1.heap.size < w2.heap.size ∧ w2.cell? ⟨hb,1,none⟩ = some (.slice na n nc)):=Lib.hid fun w2 hown hgr=>by
  obtain ⟨h1,h2⟩:=MI.made hold1 hbox1 hown hgr
  exact ⟨h1,hts.below h2,(hts.at0 0 (by omega)).2,(h1.own.lt _ rfl).2,HCN.out _ h1.old⟩
 have HMK3:Hid (∀ w2 w3,(MI w w.heap.size (.cells #[.int .i64 s.axis,.int .i64 s.test,.string (strL s.name),.slice wa s.wher.length wn] 76) w1.heap.size n (List.replicate n 0) w2 ∧ TsAt w2 (some ⟨P0,0,none⟩) n he ∧ P0 < w1.heap.size ∧ w1.heap.size < w2.heap.size ∧ w2.cell? ⟨hb,1,none⟩ = some (.slice na n nc)) → w3.ownsRow w2.heap.size 48 1 (.slice (some ⟨w2.heap.size,0,none⟩) n n) n (madeCells (Value.int .i64 0).cells (n * 1)).toList → w2.grownBy w3 none → MB w w.heap.size (.cells #[.int .i64 s.axis,.int .i64 s.test,.string (strL s.name),.slice wa s.wher.length wn] 76) P0 w1.heap.size w2.heap.size n he (List.replicate n 0) (List.replicate n 0) w3 ∧ w3.cell? ⟨hb,1,none⟩ = some (.slice na n nc)):=Lib.hid fun w2 w3 ⟨g1,g2,g3,g4,_⟩ hown hgr=>by
  obtain ⟨h1,h2⟩:=MI.made g1.old g1.box hown hgr
  exact ⟨⟨g2.below h2,g1.below h2,h1,by omega,by omega,by omega⟩,HCN.out _ h1.old⟩
 have c1:=HCN.out w1 hold1
 clear hts hold1 hbox1 hb1 h3 hP0
 go_wp2_with (at_make;go_must (first | ((refine wpList_make_full w1 (by rfl) _ _ 81 (by rfl) w1.heap.size 48 i0 _ 1 Tryz.underlying81 hi hz0 hz1 .i64 .i64 (n:Int) (n:Int) n (by rfl) (by rfl) rfl rfl (by rw [hz2];omega) (by unfold maxLen;omega) (Nat.le_refl _) (fun w2 hown2 hgr2=>?_));have HM2:=Lib.hid (HMK2.out w2 hown2 hgr2);have c2:=HM2.out.2.2.2.2) | ((refine wpList_make_full w2 (by rfl) _ _ 81 (by rfl) w2.heap.size 48 i0 _ 1 Tryz.underlying81 hi hz0 hz1 .i64 .i64 (n:Int) (n:Int) n (by rfl) (by rfl) rfl rfl (by rw [hz2];omega) (by unfold maxLen;omega) (Nat.le_refl _) (fun w3 hown3 hgr3=>?_));have HM3:=Lib.hid (HMK3.out w2 w3 HM2.out hown3 hgr3);have c3:=HM3.out.2)))
 have HMB:=Lib.hid HM3.out.1
 clear hown2 hgr2 hown3 hgr3 HM2 HM3 c1 c2 HMK2 HMK3 a0 HME
 generalize w1.heap.size = P1 at *
 generalize w2.heap.size = P2 at *
 obtain ⟨q,hq⟩:∃ q,n = q + 1:=⟨n - 1,by omega⟩
 have HQ:=Lib.hid hq
 have ewn:IntKind.i64.wrap ((n:Int) - 1) = (q:Int):=by rw [IntWalk.i64_in _ (by omega)];omega
 clear hq
 go_loopw [40] (fun iv wr=>∃ k:Nat,iv = .int .i64 k ∧ k ≤ n ∧ Hid (MB w w.heap.size (.cells #[.int .i64 s.axis,.int .i64 s.test,.string (strL s.name),.slice wa s.wher.length wn] 76) P0 P1 P2 n he (mixR n k (opT hs) (fun _=>0)) (mixR n k (opT hs) (fun _=>0)) wr)) (fun iv _=>n - (intOf iv).toNat)
 case atStart=>exact ⟨0,rfl,Nat.zero_le _,Lib.hid (by rw [← rep_mix];exact HMB.out)⟩
 case round =>
  obtain ⟨k,rfl,hk,HM⟩:=hrel
  by_cases hkn:k < n
  ·obtain ⟨b,o,A,m,c',rfl,hbl,hm,hA,hat,htx,hcells⟩:=HROW.out k (by rw [HN.out];exact hkn)
   obtain ⟨e0,e1,e2,e3,e4,e5,e6,e7,e8,e9,e10,e11,e12,e13⟩:=hcells wr HM.out.one.old
   have hopt:=opT_at (hs:=hs) (k:=k) (by rw [HN.out];exact hkn)
   have hm0:∀ j:Nat,(mixR n j (opT hs) (fun _=>0)).length = n:=fun j=>mixR_len ..
   have z1:wr.cell? ⟨P1,k,none⟩ = some (.int .i64 0):=by
    have h1:=HM.out.one.at k hkn
    rwa [List.getD_eq_getElem?_getD,mixR_get _ _ _ _ _ hkn (Nat.le_refl _),Option.getD_some] at h1
   have z2:wr.cell? ⟨P2,k,none⟩ = some (.int .i64 0):=by
    have h1:=HM.out.two.at k hkn
    rwa [List.getD_eq_getElem?_getD,mixR_get _ _ _ _ _ hkn (Nat.le_refl _),Option.getD_some] at h1
   have f1:=HM.out.one.frozen k
   have f2:=HM.out.two.frozen k
   have l1:=(HM.out.one.own.lt P1 rfl).2
   have l2:=(HM.out.two.own.lt P2 rfl).2
   have n12:=HM.out.n12
   have n21:¬ P2 = P1:=fun e=>n12 e.symm
   have HNX:Hid (∀ v,v = opT hs k → MB w w.heap.size (.cells #[.int .i64 s.axis,.int .i64 s.test,.string (strL s.name),.slice wa s.wher.length wn] 76) P0 P1 P2 n he (mixR n (k + 1) (opT hs) (fun _=>0)) (mixR n (k + 1) (opT hs) (fun _=>0)) ((wr.setCell ⟨P1,k,none⟩ (.int .i64 v)).setCell ⟨P2,k,none⟩ (.int .i64 v))):=Lib.hid fun v hv=>by
    have h1:=(HM.out.set1 k v).set2 k v
    rwa [mixR_set _ _ _ _ _ hv] at h1
   have HNY:Hid (∀ u v,v = opT hs k → MB w w.heap.size (.cells #[.int .i64 s.axis,.int .i64 s.test,.string (strL s.name),.slice wa s.wher.length wn] 76) P0 P1 P2 n he (mixR n (k + 1) (opT hs) (fun _=>0)) (mixR n (k + 1) (opT hs) (fun _=>0)) (((wr.setCell ⟨P1,k,none⟩ (.int .i64 u)).setCell ⟨P1,k,none⟩ (.int .i64 v)).setCell ⟨P2,k,none⟩ (.int .i64 v))):=Lib.hid fun u v hv=>by
    have h1:=((HM.out.set1 k u).set1 k v).set2 k v
    rwa [List.set_set,mixR_set _ _ _ _ _ hv] at h1
   clear hcells hA hat hm htx hm0
   generalize hs[k]'(by rw [HN.out];exact hkn) = hn' at *
   have i2:(0:Int) ≤ (k:Int):=by omega
   have i3:(k:Int) < (n:Int):=by omega
   have ewi:IntKind.i64.wrap ((k:Int) + 1) = (k:Int) + 1:=IntWalk.i64_in _ (by omega)
   cases hop:hn'.op with
   | true =>
    rw [hop] at e10
    have HV:Hid ((1:Int) = opT hs k):=Lib.hid (by rw [hopt,hop];rfl)
    clear hopt
    go_wp2_with fail
    go_roundw
    case rel=>exact ⟨k + 1,by go_num,by omega,Lib.hid ((HNY.out 0 1 HV.out).below ((Below.refl _ _).alloc (Nat.le_refl _) _))⟩
    case measure=>simp [intOf];omega
   | false =>
    rw [hop] at e10
    have HV:Hid ((0:Int) = opT hs k):=Lib.hid (by rw [hopt,hop];rfl)
    clear hopt
    go_wp2_with fail
    go_roundw
    case rel=>exact ⟨k + 1,by go_num,by omega,Lib.hid ((HNX.out 0 HV.out).below ((Below.refl _ _).alloc (Nat.le_refl _) _))⟩
    case measure=>simp [intOf];omega
  ·have hk2:n = k:=by omega
   subst hk2
   have HM2:Hid (MB w w.heap.size (.cells #[.int .i64 s.axis,.int .i64 s.test,.string (strL s.name),.slice wa s.wher.length wn] 76) P0 P1 P2 n he (cdAll hs he n).1 (cdAll hs he n).2 wr):=Lib.hid (by have:=HM.out;rw [mixR_all] at this;rw [cdAll_top HN.out];exact this)
   have c4:=HCN.out wr HM.out.one.old
   clear HM hk hkn HMB c3
   go_wp2_with fail
   go_loopw [12] (fun iv wr=>∃ i:Nat,iv = .int .i64 i ∧ i < n ∧ Hid (MB w w.heap.size (.cells #[.int .i64 s.axis,.int .i64 s.test,.string (strL s.name),.slice wa s.wher.length wn] 76) P0 P1 P2 n he (cdAll hs he (i + 1)).1 (cdAll hs he (i + 1)).2 wr)) (fun iv _=>(intOf iv).toNat)
   case atStart=>exact ⟨q,rfl,by have:=HQ.out;omega,Lib.hid (by rw [← HQ.out];exact HM2.out)⟩
   case round =>
    obtain ⟨i,rfl,hin,HI⟩:=hrel
    by_cases hi0:0 < i
    ·obtain ⟨b,o,A,m,c',rfl,hbl,hm,hA,hat,htx,hcells⟩:=HROW.out i (by rw [HN.out];exact hin)
     obtain ⟨e0,e1,e2,e3,e4,e5,e6,e7,e8,e9,e10,e11,e12,e13⟩:=hcells wr HI.out.one.old
     obtain ⟨hp0,hp1⟩:=HPAR.out i (hs[i]'(by rw [HN.out];exact hin)) (List.getElem?_eq_getElem _) hi0
     obtain ⟨p,hpp⟩:∃ p:Nat,(hs[i]'(by rw [HN.out];exact hin)).par = (p:Int):=⟨(hs[i]'(by rw [HN.out];exact hin)).par.toNat,by omega⟩
     have HST:=Lib.hid (cdAll_at he i p (by rw [HN.out];exact hin) hpp)
     rw [hpp] at e9 hp1
     have hpn:p < n:=by omega
     have hpi:(p:Int) < (n:Int):=by omega
     have hpi0:(0:Int) ≤ (p:Int):=by omega
     have i5:(0:Int) < (i:Int):=by omega
     have i50:(0:Int) ≤ (i:Int):=by omega
     have i6:(i:Int) < (n:Int):=by omega
     obtain ⟨i',hi'⟩:∃ i',i = i' + 1:=⟨i - 1,by omega⟩
     have HI':=Lib.hid hi'
     have ewd:IntKind.i64.wrap ((i:Int) - 1) = (i':Int):=by rw [IntWalk.i64_in _ (by omega)];omega
     have c5:=HCN.out wr HI.out.one.old
     clear hcells hA hat hm htx e0 e1 e2 e3 e4 e5 e6 e7 e8 e10 e11 e12 e13 hi' hp0 hpp
     generalize (cdAll hs he (i + 1)).1 = cv at *
     generalize (cdAll hs he (i + 1)).2 = dv at *
     go_upto_region 18 with fail
     go_cut [] from 79 to 91 (fun wx=>Hid (MB w w.heap.size (.cells #[.int .i64 s.axis,.int .i64 s.test,.string (strL s.name),.slice wa s.wher.length wn] 76) P0 P1 P2 n he (cv.set p (orL [cv.getD p 0,he.getD i 0])) dv wx))
     case first =>
      have z1:=HI.out.one.at p hpn
      obtain ⟨z2,l0⟩:=HI.out.ts.at0 i hin
      have f1:=HI.out.one.frozen p
      have l1:=(HI.out.one.own.lt P1 rfl).2
      have HNX:=Lib.hid (HI.out.set1 p (orL [cv.getD p 0,he.getD i 0]))
      generalize cv.getD p 0 = v1 at *
      generalize he.getD i 0 = v2 at *
      go_region_with (first | (go_at_call 49;(with_reducible refine (HOR2.out v1 v2 _ _ (heap_alloc_new _ _)).mono ?_);rintro e w6 ⟨rfl,rfl⟩))
      all_goals
       go_wp2_with fail
       go_meet
       exact Lib.hid (HNX.out.below (((Below.refl _ _).alloc (Nat.le_refl _) _).drew))
     case rest =>
      have HJ:=hcut
      clear hcut HI
      obtain ⟨z1,l0⟩:=HJ.out.ts.at0 i hin
      have z2:=HJ.out.two.at p hpn
      have z3:=HJ.out.two.at i hin
      have f1:=HJ.out.two.frozen p
      have l2:=(HJ.out.two.own.lt P2 rfl).2
      have HNX:=Lib.hid (HJ.out.set2 p (orL [dv.getD p 0,he.getD i 0,dv.getD i 0]))
      have HNZ:Hid (MB w w.heap.size (.cells #[.int .i64 s.axis,.int .i64 s.test,.string (strL s.name),.slice wa s.wher.length wn] 76) P0 P1 P2 n he (cdAll hs he (i' + 1)).1 (cdAll hs he (i' + 1)).2 (wc.setCell ⟨P2,p,none⟩ (.int .i64 (orL [dv.getD p 0,he.getD i 0,dv.getD i 0])))):=Lib.hid (by rw [← HI'.out,HST.out];exact HNX.out)
      clear HNX HST
      generalize dv.getD p 0 = v1 at *
      generalize he.getD i 0 = v2 at *
      generalize dv.getD i 0 = v3 at *
      go_upto_region 19 with fail
      go_region_with (first | (go_at_call 49;(with_reducible refine (HOR3.out v1 v2 v3 _ _ (heap_alloc_new _ _)).mono ?_);rintro e w6 ⟨rfl,rfl⟩))
      all_goals
       go_wp2_with fail
       go_roundw
       case rel=>exact ⟨i',rfl,by have:=HI'.out;omega,Lib.hid (HNZ.out.below (((Below.refl _ _).alloc (Nat.le_refl _) _).drew))⟩
       case measure=>simp [intOf];have:=HI'.out;omega
    ·have hi2:i = 0:=by omega
     subst hi2
     have HF:=Lib.hid HI.out
     rw [Nat.zero_add] at HF
     have a1:wr.cell? ⟨w.heap.size,0,none⟩ = some (.int .i64 s.axis):=by rw [cell_heap HF.out.one.box];rfl
     obtain ⟨z,hz⟩:∃ z:Int,((0:Nat):Int) = z:=⟨_,rfl⟩
     rw [hz]
     have t9:z ≤ 0:=by omega
     clear hz
     clear HI HM2 c4
     generalize (cdAll hs he 1).1 = cv at *
     generalize (cdAll hs he 1).2 = dv at *
     by_cases h0:s.axis = 0
     ·have HR:Hid (R = cv):=Lib.hid (by have:=HBT.out;rw [if_pos h0] at this;exact this)
      clear HBT t3
      generalize s.axis = ax at *
      subst h0
      go_wp2_with fail
      go_ret
      exact ⟨P1,rfl,HF.out.one.lo,by rw [HR.out];exact HF.out.one.ts,HF.out.one.old⟩
     have t0:((s.axis:Int) == 0) = false:=by simpa using h0
     by_cases h2:s.axis = 2
     ·have HR:Hid (R = rowOf n fun k=>orL [dv.getD k 0,he.getD k 0]):=Lib.hid (by have:=HBT.out;rw [if_neg h0,if_pos h2] at this;exact this)
      clear HBT t3 t0 h0
      generalize s.axis = ax at *
      subst h2
      go_wp2_with fail
      go_loopw [118] (fun jv wr=>∃ j:Nat,jv = .int .i64 j ∧ j ≤ n ∧ Hid (MB w w.heap.size (.cells #[.int .i64 2,.int .i64 s.test,.string (strL s.name),.slice wa s.wher.length wn] 76) P0 P1 P2 n he cv (mixR n j (fun k=>orL [dv.getD k 0,he.getD k 0]) (fun k=>dv.getD k 0)) wr)) (fun jv _=>n - (intOf jv).toNat)
      case atStart=>exact ⟨0,rfl,Nat.zero_le _,Lib.hid (by rw [mixR_zero,rowOf_self _ _ HF.out.two.len];exact HF.out)⟩
      case round =>
       obtain ⟨j,rfl,hjn,HJ⟩:=hrel
       by_cases hj:j < n
       ·obtain ⟨z1,l0⟩:=HJ.out.ts.at0 j hj
        have z2:wr.cell? ⟨P2,j,none⟩ = some (.int .i64 (dv.getD j 0)):=by
         have h1:=HJ.out.two.at j hj
         rwa [List.getD_eq_getElem?_getD,mixR_get _ _ _ _ _ hj (Nat.le_refl _),Option.getD_some] at h1
        have f2:=HJ.out.two.frozen j
        have l2:=(HJ.out.two.own.lt P2 rfl).2
        have HNX:Hid (MB w w.heap.size (.cells #[.int .i64 2,.int .i64 s.test,.string (strL s.name),.slice wa s.wher.length wn] 76) P0 P1 P2 n he cv (mixR n (j + 1) (fun k=>orL [dv.getD k 0,he.getD k 0]) (fun k=>dv.getD k 0)) (wr.setCell ⟨P2,j,none⟩ (.int .i64 (orL [dv.getD j 0,he.getD j 0])))):=Lib.hid (by
         have h1:=HJ.out.set2 j (orL [dv.getD j 0,he.getD j 0])
         rwa [mixR_set _ _ _ _ _ rfl] at h1)
        generalize dv.getD j 0 = v1 at *
        generalize he.getD j 0 = v2 at *
        have i5:(0:Int) ≤ (j:Int):=by omega
        have i6:(j:Int) < (n:Int):=by omega
        have ewi:IntKind.i64.wrap ((j:Int) + 1) = (j:Int) + 1:=IntWalk.i64_in _ (by omega)
        go_wp2_with fail
        go_region_with (first | (go_at_call 49;(with_reducible refine (HOR2.out v1 v2 _ _ (heap_alloc_new _ _)).mono ?_);rintro e w6 ⟨rfl,rfl⟩))
        all_goals
         go_wp2_with fail
         go_roundw
         case rel=>exact ⟨j + 1,by go_num,by omega,Lib.hid (HNX.out.below (((Below.refl _ _).alloc (Nat.le_refl _) _).drew))⟩
         case measure=>simp [intOf];omega
       ·have hj2:j = n:=by omega
        have HE:=Lib.hid HJ.out
        rw [hj2,mixR_all] at HE
        go_wp2_with fail
        go_ret
        exact ⟨P2,rfl,HE.out.two.lo,by rw [HR.out];exact HE.out.two.ts,HE.out.two.old⟩
     have t2:((s.axis:Int) == 2) = false:=by simpa using h2
     have HR:Hid (R = dv):=Lib.hid (by have:=HBT.out;rw [if_neg h0,if_neg h2] at this;exact this)
     clear HBT t3 h0 h2
     generalize s.axis = ax at *
     go_wp2_with fail
     go_ret
     exact ⟨P2,rfl,HF.out.two.lo,by rw [HR.out];exact HF.out.two.ts,HF.out.two.old⟩
end Go.Proofs.YtgjokdngbocehaaGreatDoor
