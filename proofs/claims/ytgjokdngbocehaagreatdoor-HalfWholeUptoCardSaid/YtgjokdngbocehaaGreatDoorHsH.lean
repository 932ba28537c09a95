/-
  tree.Build: its region 13, where a node is kept.
-/
import Derived.BigRegion
import Derived.Shelf.Abstract
import Derived.OwnWalkIn
import Derived.TacticsInMore
import Derived.LoopNIn
import Derived.LoopIn
import Derived.Test.YtgjokdngbocehaaGreatDoorHsA
import Derived.Test.YtgjokdngbocehaaGreatDoorHsD
import Derived.Test.YtgjokdngbocehaaGreatDoorHsE
import Derived.Test.YtgjokdngbocehaaGreatDoorHsF
import Derived.Test.YtgjokdngbocehaaGreatDoorHsG
namespace Go.Proofs.YtgjokdngbocehaaGreatDoor
open Go.RowKit
noncomputable def tree13:Code:=((Tryz.f24.body.bind (regNo6 13)).getD .skip)
def ldNodes:Op:=Op.load 107 (Operand.tmp 63)
theorem ldNodes_eq:ldNodes = Op.load 107 (Operand.tmp 63):=rfl
theorem infoNode:(Tryz.prog.info? 113).map (fun i=>(i.zero,i.size,i.bytes)) = some (some (.agg #[.int .i64 0,.int .i64 0,.int .i64 0,.string ⟨#[]⟩,.slice none 0 0,.string ⟨#[]⟩,.int .i64 0,.int .i64 0,.int .i64 0,.int .i64 0,.int .i64 0,.int .i64 0]),12,128):=by kernel_rfl
set_option maxRecDepth 1000000 in
set_option maxHeartbeats 4000000 in
theorem tree13_any (R tb eb go on l oc k nn:Nat) (par:Int) (e:Ev) (A:Option Addr) (m c:Nat) (oa:Option Addr) (na:Nat) (q:Value) (ncs:List Value) (u0 u1 u2 u3 u4 u9 u10 u11 u12 u13 u14 u15 u16 u17 u18 u19 u20 u21 u22 u23 u24 u25 u26 u27 u28 u29 u30 u31 u32 u33 u34 u35 u36 u37 u38 u39 u40 u41 u42 u43 u44 u45 u46 u47 u48 u49 u50 u51 u52 u53 u54 u55 u56 u57 u58 u59 u60 u61 u62 u63 u64 u65 u66 u67 u68 u69 u70 u71 u72 u73 u74 u75 u76 u77 u78 u79 u80 u81 u82 u83 u84 u85 u86 u87 u88 u89 u90 u91 u92 u93 u94:Value) (W3:World)
  (h0:W3.heap[tb]? = some (.cells #[q,.slice oa nn na] 109 (0,0))) (h1:W3.heap[eb]? = some (.cells (evC e.kind e.num e.dep e.name A m c e.text e.fr e.tt) 47 (0,0)))
  (h2:W3.ownsRow R 113 12 (.slice oa nn na) nn ncs) (hR:R ≤ W3.heap.size) (htb:tb < R) (hgo:go < W3.heap.size) (htop:W3.cell? ⟨go,on,none⟩ = some (.int .i64 par))
  (hnt:(Value.slice oa nn na).ownBlock ≠ some tb) (hne:(Value.slice oa nn na).ownBlock ≠ some eb) (hng:(Value.slice oa nn na).ownBlock ≠ some go) (het:tb ≠ eb) (hgt:tb ≠ go) (hon:on ≤ 1048576) (hk:k ≤ 1048576) (hnn:nn ≤ 1048576) (hl1:l = on + 1)
  (Q:Exit → Act → World → Prop) (hQ:Hid (∀ (y60 y61 y62 y63 y64 y65 y66 y67 y68 y69 y70 y71 y72 y73 y74 y75 y76 y77 y78 y79 y80 y81:Value) (oa6:Option Addr) (na6:Nat) (w6:World),w6.ownsRow R 113 12 (.slice oa6 (nn + 1) na6) (nn + 1) (ncs ++ ndL e ⟨k,par,e.num,k + 1⟩ A m c) → Moved tb (.slice oa nn na) (.slice oa6 (nn + 1) na6) W3 w6 →
   w6.heap[tb]? = some (.cells #[q,.slice oa6 (nn + 1) na6] 109 (0,0)) → Q .normal ⟨#[u0,u1,u2,u3,u4,.pointer (some ⟨tb,0,none⟩),.slice (some ⟨go,0,none⟩) l oc,.int .i64 k,.pointer (some ⟨eb,0,none⟩),u9,u10,u11,u12,u13,u14,u15,u16,u17,u18,u19,u20,u21,u22,u23,u24,u25,u26,u27,u28,u29,u30,u31,u32,u33,u34,u35,u36,u37,u38,u39,u40,u41,u42,u43,u44,u45,u46,u47,u48,u49,u50,u51,u52,u53,u54,u55,u56,u57,u58,u59,y60,y61,y62,y63,y64,y65,y66,y67,y68,y69,y70,y71,y72,y73,y74,y75,y76,y77,y78,y79,y80,y81,u82,u83,u84,u85,u86,u87,u88,u89,u90,u91,u92,u93,u94],[]⟩ w6)) :
  Code.wp Tryz.prog tree13 Q ⟨#[u0,u1,u2,u3,u4,.pointer (some ⟨tb,0,none⟩),.slice (some ⟨go,0,none⟩) l oc,.int .i64 k,.pointer (some ⟨eb,0,none⟩),u9,u10,u11,u12,u13,u14,u15,u16,u17,u18,u19,u20,u21,u22,u23,u24,u25,u26,u27,u28,u29,u30,u31,u32,u33,u34,u35,u36,u37,u38,u39,u40,u41,u42,u43,u44,u45,u46,u47,u48,u49,u50,u51,u52,u53,u54,u55,u56,u57,u58,u59,u60,u61,u62,u63,u64,u65,u66,u67,u68,u69,u70,u71,u72,u73,u74,u75,u76,u77,u78,u79,u80,u81,u82,u83,u84,u85,u86,u87,u88,u89,u90,u91,u92,u93,u94],[]⟩ W3:=by
 obtain ⟨i0,hi,hz0,hz1,hz2⟩:=info_parts infoNode
 have hlt3:tb < W3.heap.size:=heap_lt h0
 have HOWA:Hid (∀ o,(W3.drew.alloc o).ownsRow R 113 12 (.slice oa nn na) nn ncs):=Lib.hid fun o=>h2.drew.alloc o
 have HNEW:Hid (∀ o,(W3.drew.alloc o).heap[W3.heap.size]? = some o):=Lib.hid fun o=>heap_alloc_new W3.drew o
 have HLE3:Hid (∀ o,R ≤ (W3.drew.alloc o).heap.size):=Lib.hid fun o=>by simp;omega
 have HCBA:Hid (∀ o,(W3.drew.alloc o).heap[tb]? = some (.cells #[q,.slice oa nn na] 109 (0,0)) ∧ tb < (W3.drew.alloc o).heap.size):=Lib.hid fun o=>⟨(Below.heap_alloc W3.drew o tb hlt3).trans h0,by simp;omega⟩
 have HEBA:Hid (∀ o,(W3.drew.alloc o).heap[eb]? = some (.cells (evC e.kind e.num e.dep e.name A m c e.text e.fr e.tt) 47 (0,0)) ∧ eb < (W3.drew.alloc o).heap.size):=Lib.hid fun o=>by
  have hl:=heap_lt h1
  exact ⟨(Below.heap_alloc W3.drew o eb hl).trans h1,by simp;omega⟩
 have HGOA:Hid (∀ o,(W3.drew.alloc o).heap[go]? = W3.heap[go]? ∧ go < (W3.drew.alloc o).heap.size):=Lib.hid fun o=>⟨Below.heap_alloc W3.drew o go hgo,by simp;omega⟩
 have HMV:Hid (∀ o,Moved tb (.slice oa nn na) (.slice oa nn na) W3 (W3.drew.alloc o)):=Lib.hid fun o=>Moved.of (((Below.refl W3.heap.size W3).drew).alloc (Nat.le_refl _) o)
 have HNT:=Lib.hid (⟨hnt,hne,hng⟩:_ ∧ _ ∧ _)
 have HTBR:=Lib.hid htb
 have c1:W3.cell? ⟨tb,1,none⟩ = some (.slice oa nn na):=by rw [cell_heap h0];rfl
 have e0:W3.cell? ⟨eb,0,none⟩ = some (.int .i64 e.kind):=by rw [cell_heap h1];rfl
 have e1:W3.cell? ⟨eb,1,none⟩ = some (.int .i64 e.num):=by rw [cell_heap h1];rfl
 have e2:W3.cell? ⟨eb,2,none⟩ = some (.int .i64 e.dep):=by rw [cell_heap h1];rfl
 have e3:W3.cell? ⟨eb,3,none⟩ = some (.string (strL e.name)):=by rw [cell_heap h1];rfl
 have e4:W3.cell? ⟨eb,4,none⟩ = some (.slice A m c):=by rw [cell_heap h1];rfl
 have e5:W3.cell? ⟨eb,5,none⟩ = some (.string (strL e.text)):=by rw [cell_heap h1];rfl
 have e6:W3.cell? ⟨eb,6,none⟩ = some (.int .i64 e.fr):=by rw [cell_heap h1];rfl
 have e7:W3.cell? ⟨eb,7,none⟩ = some (.int .i64 e.tt):=by rw [cell_heap h1];rfl
 have ca2:∀ o,(W3.alloc o).cell? ⟨tb,1,none⟩ = some (.slice oa nn na):=fun o=>by rw [cell_heap ((Below.heap_alloc W3 o tb hlt3).trans h0)];rfl
 have HTOP:=Lib.hid htop
 have honm:nn + 1 ≤ 4294967296:=by omega
 have ew:IntKind.i64.wrap ((l:Int) - 1) = (on:Int):=by rw [IntWalk.i64_in _ (by omega)];omega
 have ew2:IntKind.i64.wrap ((k:Int) + 1) = (k:Int) + 1:=IntWalk.i64_in _ (by omega)
 have i1:(0:Int) ≤ (on:Int):=by omega
 have i2:(on:Int) < (l:Int):=by omega
 conv=>arg 2;whnf
 rw [← ldNodes_eq]
 have hld:=ldNodes_eq
 clear h0 h1 h2 hR htb hnt hne hng hon hk hnn hl1
 go_region_held3 (fun w'=>w'.cell? ⟨eb,0,none⟩ = some (.int .i64 e.kind) ∧ w'.cell? ⟨eb,1,none⟩ = some (.int .i64 e.num) ∧ w'.cell? ⟨eb,2,none⟩ = some (.int .i64 e.dep) ∧ w'.cell? ⟨eb,3,none⟩ = some (.string (strL e.name)) ∧ w'.cell? ⟨eb,4,none⟩ = some (.slice A m c) ∧ w'.cell? ⟨eb,5,none⟩ = some (.string (strL e.text)) ∧ w'.cell? ⟨eb,6,none⟩ = some (.int .i64 e.fr) ∧ w'.cell? ⟨eb,7,none⟩ = some (.int .i64 e.tt) ∧ w'.cell? ⟨go,on,none⟩ = some (.int .i64 par)) (go_keep) (first | (refine step_app _ rfl (.tmp 64) (.tmp 78) 107 rfl R 113 i0 _ 12 128 Tryz.underlying107 hi hz0 hz1 hz2 (by rfl) (by decide) (.slice oa nn na) nn ncs (by rfl) (HOWA.out _) W3.heap.size 1 (ndL e ⟨k,par,e.num,k + 1⟩ A m c) (by rfl) (by rfl) (HNEW.out _) (ndL_one _ _ _ _ _) honm (by decide) (HLE3.out _) ?_;intro v6 w6 hown hap;obtain ⟨oa6,na6,rfl,_⟩:=own_slice hown;have KC:=Lib.hid ((hap.keep (HCBA.out _).2 HNT.out.1).trans (HCBA.out _).1);have KE:=Lib.hid ((hap.keep (HEBA.out _).2 HNT.out.2.1).trans (HEBA.out _).1);have g0:w6.cell? ⟨eb,0,none⟩ = some (.int .i64 e.kind):=(by rw [cell_heap KE.out];rfl);have g1:w6.cell? ⟨eb,1,none⟩ = some (.int .i64 e.num):=(by rw [cell_heap KE.out];rfl);have g2:w6.cell? ⟨eb,2,none⟩ = some (.int .i64 e.dep):=(by rw [cell_heap KE.out];rfl);have g3:w6.cell? ⟨eb,3,none⟩ = some (.string (strL e.name)):=(by rw [cell_heap KE.out];rfl);have g4:w6.cell? ⟨eb,4,none⟩ = some (.slice A m c):=(by rw [cell_heap KE.out];rfl);have g5:w6.cell? ⟨eb,5,none⟩ = some (.string (strL e.text)):=(by rw [cell_heap KE.out];rfl);have g6:w6.cell? ⟨eb,6,none⟩ = some (.int .i64 e.fr):=(by rw [cell_heap KE.out];rfl);have g7:w6.cell? ⟨eb,7,none⟩ = some (.int .i64 e.tt):=(by rw [cell_heap KE.out];rfl);have gt:w6.cell? ⟨go,on,none⟩ = some (.int .i64 par):=(by rw [← HTOP.out];simp only [World.cell?,(hap.keep (HGOA.out _).2 HNT.out.2.2).trans (HGOA.out _).1]);have d0:w6.cell? ⟨tb,1,none⟩ = some (.slice oa nn na):=(by rw [cell_heap KC.out];rfl);have fz:∀ j,w6.frozen? ⟨tb,j,none⟩ = false:=(fun j=>frozen_heap KC.out);have HAP:=Lib.hid ((HMV.out _).trans (Moved.app hap));have HOWN:=Lib.hid hown;clear hap hown))
 all_goals
  refine hQ.out _ _ _ _ _ _ _ _ _ _ _ _ _ _ _ _ _ _ _ _ _ _ oa6 na6 _ ?_ (HAP.out.set _ _) (setCell_heap KC.out _)
  exact own_block HOWN.out (fun k hk=>Below.heap_setCell _ _ _ _ (fun e=>by have:=(HOWN.out.lt k hk).1;have:=HTBR.out;have e':k = tb:=e;omega))
end Go.Proofs.YtgjokdngbocehaaGreatDoor
namespace Go.Proofs.YtgjokdngbocehaaGreatDoor
open Go.RowKit
theorem BInv.start {wc:World} {cb n:Nat} {evs:List Ev} (hcb:cb < wc.heap.size) (hc:wc.heap[cb]? = some (.cells #[.slice none 0 0,.int .i64 0,.bool false,.bool false] 105 (0,0))) (W:World)
  (hW:W = (wc.alloc (.cells #[.slice (some ⟨cb + 1,0,none⟩) n n,.slice none 0 0] 109)).alloc (.cells #[.int .i64 (-1)] 3)) :
  BInv wc cb (cb + 1) n evs beg0 beg0 [] (.slice none 0 0) (.slice none 0 0) (.slice (some ⟨wc.heap.size + 1,0,none⟩) 1 1) W:=by
 subst hW
 have hsz:((wc.alloc (.cells #[.slice (some ⟨cb + 1,0,none⟩) n n,.slice none 0 0] 109)).alloc (.cells #[.int .i64 (-1)] 3)).heap.size = wc.heap.size + 2:=by simp
 have hblk:∀ j,j < wc.heap.size → ((wc.alloc (.cells #[.slice (some ⟨cb + 1,0,none⟩) n n,.slice none 0 0] 109)).alloc (.cells #[.int .i64 (-1)] 3)).heap[j]? = wc.heap[j]?:=fun j hj=>(Below.heap_alloc _ _ _ (by simp;omega)).trans (Below.heap_alloc _ _ _ hj)
 refine ⟨rfl,rfl,rfl,by omega,fun j hj _=>hblk j hj,⟨by omega,by omega,(hblk cb hcb).trans hc,World.ownsRow_nil _ _ _ _,fun _=>rfl,by decide⟩,(Below.heap_alloc _ _ _ (by simp)).trans (heap_alloc_new wc _),⟨[],World.ownsRow_nil _ _ _ _,fun i x h=>by simp at h⟩,?_⟩
 have:=World.ownsRow_lit (base:=wc.heap.size + 1) (e:=3) (size:=1) (wc.alloc (.cells #[.slice (some ⟨cb + 1,0,none⟩) n n,.slice none 0 0] 109)) #[.int .i64 (-1)] 1 (by simp) (by unfold maxLen;omega) rfl
 have e1:beg0.opn.length + 1 = 1:=rfl
 have e2:opC beg0.opn = [.int .i64 (-1)]:=rfl
 rw [e1,e2]
 simpa using this
theorem done_any (cb:Nat) (d:Bool) (w:World) (h:w.cell? ⟨cb,3,none⟩ = some (.bool d)):Calls Tryz.prog 44 #[.pointer (some ⟨cb,0,none⟩)] w fun e w'=>e = .returned (.bool d) ∧ w' = w:=by
 go_enter Tryz.func44,Tryz.ntmps44
 go_wp2_with fail
 go_ret
 exact ⟨rfl,rfl⟩
structure TreeAt (w:World) (B tb:Nat) (evs:List Ev):Prop where
 lt:tb < w.heap.size
 le:B ≤ tb
 at':∃ (ge n:Nat) (an:Option Addr) (cn:Nat),w.heap[tb]? = some (.cells #[.slice (some ⟨ge,0,none⟩) n n,.slice an (nodesB evs).length cn] 109 (0,0)) ∧ n = evs.length ∧ (nodesB evs).length ≤ cn ∧ B ≤ ge ∧ ge < w.heap.size ∧
  (∀ i,(h:i < evs.length) → ∃ (A:Option Addr) (m c:Nat),m ≤ c ∧ AttrsAt w A m evs[i].ats ∧ (∀ ad,A = some ad → B ≤ ad.block) ∧ ∀ j,j < 8 → w.cell? ⟨ge,i * 8 + j,none⟩ = (evL evs[i] A m c)[j]?) ∧
  ∀ i x,(nodesB evs)[i]? = some x → ∃ (b:Nat) (e:Ev) (A:Option Addr) (m c:Nat),an = some ⟨b,0,none⟩ ∧ B ≤ b ∧ b < w.heap.size ∧ evs[x.pos]? = some e ∧ m ≤ c ∧ AttrsAt w A m e.ats ∧ (∀ ad,A = some ad → B ≤ ad.block) ∧ ∀ j,j < 12 → w.cell? ⟨b,i * 12 + j,none⟩ = (ndL e x A m c)[j]?
theorem TreeAt.keep {w w':World} {B tb:Nat} {evs:List Ev} (h:TreeAt w B tb evs) (hs:w.heap.size ≤ w'.heap.size) (hk:∀ j,B ≤ j → j < w.heap.size → w'.heap[j]? = w.heap[j]?):TreeAt w' B tb evs:=by
 obtain ⟨h1,h2,ge,n,an,cn,h3,h4,h5,h6,h7,h8,h9⟩:=h
 have hc:∀ b j,B ≤ b → b < w.heap.size → w'.cell? ⟨b,j,none⟩ = w.cell? ⟨b,j,none⟩:=fun b j g1 g2=>by simp only [World.cell?,hk b g1 g2]
 refine ⟨by omega,h2,ge,n,an,cn,(hk tb h2 h1).trans h3,h4,h5,h6,by omega,fun i hi=>?_,fun i x hx=>?_⟩
 ·obtain ⟨A,m,c,g1,g2,g3,g4⟩:=h8 i hi
  exact ⟨A,m,c,g1,g2.keep hs fun b o e hlt=>hk b (g3 _ e) hlt,g3,fun j hj=>(hc ge _ h6 h7).trans (g4 j hj)⟩
 ·obtain ⟨b,e,A,m,c,g1,g2,g3,g4,g5,g6,g7,g8⟩:=h9 i x hx
  exact ⟨b,e,A,m,c,g1,g2,by omega,g4,g5,g6.keep hs fun b o e hlt=>hk b (g7 _ e) hlt,g7,fun j hj=>(hc b _ g2 g3).trans (g8 j hj)⟩
theorem BInv.toBelow {w wc W:World} {ge n:Nat} {evs:List Ev} {sC s:BegS} {nds:List Nd} {vC vN vO:Value} (h:BInv wc w.heap.size ge n evs sC s nds vC vN vO W) (hb:Below w.heap.size w wc):Below w.heap.size w W :=
 hb.trans ⟨h.os,h.tape,h.output,by have:=h.size;omega,fun k hk=>h.block k (by have:=hb.size;omega) (by omega)⟩
theorem BInv.attrs {wc W:World} {cb ge n:Nat} {evs:List Ev} {sC s:BegS} {nds:List Nd} {vC vN vO:Value} (h:BInv wc cb ge n evs sC s nds vC vN vO W) {A:Option Addr} {m:Nat} {ats:List (List UInt8 × List UInt8)} (hA:AttrsAt wc A m ats) (hne:∀ ad,A = some ad → cb < ad.block):AttrsAt W A m ats :=
 hA.keep (by have:=h.size;omega) fun b o e hlt=>h.block b hlt (by have:=hne _ e;simp only at this;omega)
theorem BInv.same {wc W:World} {cb ge n:Nat} {evs:List Ev} {sC s s':BegS} {nds:List Nd} {vC vN vO:Value} (h:BInv wc cb ge n evs sC s nds vC vN vO W) (hs:s'.opn = s.opn):BInv wc cb ge n evs sC s' nds vC vN vO W :=
 ⟨h.os,h.tape,h.output,h.size,h.block,h.chk,h.tree,h.nds',by rw [hs];exact h.opn⟩
end Go.Proofs.YtgjokdngbocehaaGreatDoor
namespace Go.Proofs.YtgjokdngbocehaaGreatDoor
open Go.RowKit Go.Shelf
attribute [local go_sem] Oper.semAt_some
structure LastAt (W:World) (G:Nat → Prop) (tb L:Nat) (f:Nat → Nat):Prop where
 good:G tb
 ex:∃ q an cn,W.heap[tb]? = some (.cells #[q,.slice an L cn] 109 (0,0)) ∧ L ≤ cn ∧ ∀ i,i < L → ∃ b,an = some ⟨b,0,none⟩ ∧ G b ∧ W.cell? ⟨b,i * 12 + 9,none⟩ = some (.int .i64 (f i))
theorem LastAt.keep {A B:World} {G:Nat → Prop} {tb L:Nat} {f:Nat → Nat} (h:LastAt A G tb L f) (hk:∀ k,G k → B.heap[k]? = A.heap[k]?):LastAt B G tb L f:=by
 obtain ⟨h1,q,an,cn,h2,h3,h4⟩:=h
 refine ⟨h1,q,an,cn,(hk tb h1).trans h2,h3,fun i hi=>?_⟩
 obtain ⟨b,e,hb,hc⟩:=h4 i hi
 exact ⟨b,e,hb,by simp only [World.cell?,hk b hb] at hc ⊢;exact hc⟩
theorem LastAt.mono {A:World} {G H:Nat → Prop} {tb L:Nat} {f:Nat → Nat} (h:LastAt A G tb L f) (hk:∀ k,G k → H k):LastAt A H tb L f:=by
 obtain ⟨h1,q,an,cn,h2,h3,h4⟩:=h
 refine ⟨hk _ h1,q,an,cn,h2,h3,fun i hi=>?_⟩
 obtain ⟨b,e,hb,hc⟩:=h4 i hi
 exact ⟨b,e,hk _ hb,hc⟩
theorem len_any {w:World} {G:Nat → Prop} {tb L:Nat} {f:Nat → Nat} (h:LastAt w G tb L f):Calls Tryz.prog 81 #[.pointer (some ⟨tb,0,none⟩)] w fun e w'=>e = .returned (.int .i64 (L:Nat)) ∧ w' = w:=by
 obtain ⟨_,q,an,cn,h2,_,_⟩:=h
 have c1:w.cell? ⟨tb,1,none⟩ = some (.slice an L cn):=by rw [cell_heap h2];rfl
 clear h2
 go_enter Tryz.func81,Tryz.ntmps81
 go_wp2_with fail
 go_ret
 exact ⟨rfl,rfl⟩
theorem last_top {w:World} {G:Nat → Prop} {tb L:Nat} {f:Nat → Nat} (h:LastAt w G tb L f) (hL:L ≤ 1048576) (n:Int) (hn:n < 0):Calls Tryz.prog 136 #[.pointer (some ⟨tb,0,none⟩),.int .i64 n] w fun e w'=>e = .returned (.int .i64 ((L:Int) - 1)) ∧ w' = w:=by
 obtain ⟨_,q,an,cn,h2,_,_⟩:=h
 have c1:w.cell? ⟨tb,1,none⟩ = some (.slice an L cn):=by rw [cell_heap h2];rfl
 have ew:IntKind.i64.wrap ((L:Int) - 1) = (L:Int) - 1:=IntWalk.i64_in _ (by omega)
 clear h2
 go_enter Tryz.func136,Tryz.ntmps136
 go_wp2_with fail
 go_ret
 exact ⟨rfl,rfl⟩
theorem last_at {w:World} {G:Nat → Prop} {tb L:Nat} {f:Nat → Nat} (h:LastAt w G tb L f) (i:Nat) (hi:i < L):Calls Tryz.prog 136 #[.pointer (some ⟨tb,0,none⟩),.int .i64 (i:Nat)] w fun e w'=>e = .returned (.int .i64 (f i:Nat)) ∧ w' = w:=by
 obtain ⟨_,q,an,cn,h2,_,h4⟩:=h
 obtain ⟨b,rfl,_,hc⟩:=h4 i hi
 have c1:w.cell? ⟨tb,1,none⟩ = some (.slice (some ⟨b,0,none⟩) L cn):=by rw [cell_heap h2];rfl
 have i1:(0:Int) ≤ (i:Int):=by omega
 have i2:(i:Int) < (L:Int):=by omega
 clear h2 h4
 go_enter Tryz.func136,Tryz.ntmps136
 go_wp2_with fail
 go_ret
 exact ⟨rfl,rfl⟩
theorem refuses_in {w:World} {G:Nat → Prop} {tb L:Nat} {f:Nat → Nat} (h:LastAt w G tb L f) (n least:Int) (h1:least ≤ n) (h2:n < L):Calls Tryz.prog 46 #[.pointer (some ⟨tb,0,none⟩),.int .i64 n,.int .i64 least] w fun e w'=>e = .returned (.int .i64 0) ∧ w' = w:=by
 obtain ⟨_,q,an,cn,hb,_,_⟩:=h
 have c1:w.cell? ⟨tb,1,none⟩ = some (.slice an L cn):=by rw [cell_heap hb];rfl
 clear hb
 go_enter Tryz.func46,Tryz.ntmps46
 go_wp2_with fail
 go_ret
 exact ⟨rfl,rfl⟩
theorem refuses_low {w:World} {G:Nat → Prop} {tb L:Nat} {f:Nat → Nat} (h:LastAt w G tb L f) (n least:Int) (h1:n < least):Calls Tryz.prog 46 #[.pointer (some ⟨tb,0,none⟩),.int .i64 n,.int .i64 least] w fun e w'=>e = .returned (.int .i64 2) ∧ w' = w:=by
 obtain ⟨_,q,an,cn,hb,_,_⟩:=h
 have c1:w.cell? ⟨tb,1,none⟩ = some (.slice an L cn):=by rw [cell_heap hb];rfl
 clear hb
 go_enter Tryz.func46,Tryz.ntmps46
 go_wp2_with fail
 go_ret
 exact ⟨rfl,rfl⟩
theorem refuses_high {w:World} {G:Nat → Prop} {tb L:Nat} {f:Nat → Nat} (h:LastAt w G tb L f) (n least:Int) (h1:least ≤ n) (h2:(L:Int) ≤ n):Calls Tryz.prog 46 #[.pointer (some ⟨tb,0,none⟩),.int .i64 n,.int .i64 least] w fun e w'=>e = .returned (.int .i64 2) ∧ w' = w:=by
 obtain ⟨_,q,an,cn,hb,_,_⟩:=h
 have c1:w.cell? ⟨tb,1,none⟩ = some (.slice an L cn):=by rw [cell_heap hb];rfl
 clear hb
 go_enter Tryz.func46,Tryz.ntmps46
 go_wp2_with fail
 go_ret
 exact ⟨rfl,rfl⟩
def stepsF (g:Nat → Nat) (hi:Nat):Nat → Nat → List Int
 | 0,_=>[]
 | m + 1,k=>if k < hi then (k:Int) :: stepsF g hi m (g k) else []
def hiOf (L:Nat) (f:Nat → Nat) (n:Int):Nat:=if n < 0 then L else f n.toNat + 1
def nextOf (f:Nat → Nat) (a:Int) (k:Nat):Nat:=if a = 0 then f k + 1 else k + 1
def alongM (L:Nat) (f:Nat → Nat) (n a:Int):List Int :=
 if n < -1 ∨ (L:Int) ≤ n ∨ a < 0 ∨ 3 < a then []
 else (if a = 2 ∨ a = 3 then [n] else []) ++ (if a = 3 then [] else stepsF (nextOf f a) (hiOf L f n) L (n + 1).toNat)
theorem along_makes (t:Option Addr) (n a:Int) (w:World) :
  Calls Tryz.prog 107 #[.pointer t,.int .i64 n,.int .i64 a] w fun e w'=>e = .returned (.func (.func 135) #[] #[.pointer (some ⟨w.heap.size,0,none⟩),.pointer (some ⟨w.heap.size + 1,0,none⟩),.pointer (some ⟨w.heap.size + 1 + 1,0,none⟩)]) ∧
   w' = ((w.alloc (.cells #[.pointer t] 63)).alloc (.cells #[.int .i64 n] 3)).alloc (.cells #[.int .i64 a] 73):=by
 go_enter Tryz.func107,Tryz.ntmps107
 go_wp2_with fail
 go_ret
 exact ⟨rfl,rfl⟩
end Go.Proofs.YtgjokdngbocehaaGreatDoor
namespace Go.Proofs.YtgjokdngbocehaaGreatDoor
open Go.RowKit Go.Shelf
attribute [local go_sem] Oper.semAt_some
theorem stepsF_at {g:Nat → Nat} {hi m k:Nat} (h:k < hi) (hm:hi ≤ k + m):stepsF g hi m k = (k:Int) :: stepsF g hi (m - 1) (g k):=by
 cases m with
 | zero=>omega
 | succ m=>show (if k < hi then (k:Int) :: stepsF g hi m (g k) else []) = _;rw [if_pos h];rfl
theorem stepsF_end {g:Nat → Nat} {hi m k:Nat} (h:hi ≤ k):stepsF g hi m k = []:=by
 cases m with
 | zero=>rfl
 | succ m=>show (if k < hi then (k:Int) :: stepsF g hi m (g k) else []) = _;rw [if_neg (by omega)]
structure BoxT (W:World) (G:Nat → Prop) (B0 B1 B2 tb L:Nat) (f:Nat → Nat) (v a:Int):Prop where
 b0:Boxed W B0 63 (.pointer (some ⟨tb,0,none⟩))
 b1:Boxed W B1 3 (.int .i64 v)
 b2:Boxed W B2 73 (.int .i64 a)
 g0:G B0
 g1:G B1
 g2:G B2
 tree:LastAt W G tb L f
theorem BoxT.keep {A B:World} {G:Nat → Prop} {B0 B1 B2 tb L:Nat} {f:Nat → Nat} {v a:Int} (h:BoxT A G B0 B1 B2 tb L f v a) (hk:∀ k,G k → B.heap[k]? = A.heap[k]?):BoxT B G B0 B1 B2 tb L f v a :=
 ⟨(hk _ h.g0).trans h.b0,(hk _ h.g1).trans h.b1,(hk _ h.g2).trans h.b2,h.g0,h.g1,h.g2,h.tree.keep hk⟩
theorem lastv {W:World} {G:Nat → Prop} {tb L:Nat} {f:Nat → Nat} (h:LastAt W G tb L f) (hL:L ≤ 1048576) (v:Int) (hv:v < L) :
  Calls Tryz.prog 136 #[.pointer (some ⟨tb,0,none⟩),.int .i64 v] W fun e w'=>e = .returned (.int .i64 ((hiOf L f v:Nat) - 1:Int)) ∧ w' = W:=by
 by_cases h0:v < 0
 ·have:=last_top h hL v h0
  unfold hiOf
  rw [if_pos h0]
  exact this
 ·obtain ⟨i,rfl⟩:∃ i:Nat,v = (i:Int):=⟨v.toNat,by omega⟩
  have:=last_at h i (by omega)
  unfold hiOf
  rw [if_neg h0,Int.toNat_natCast,Int.natCast_add,show ((f i:Nat):Int) + ((1:Nat):Int) - 1 = (f i:Nat) by omega]
  exact this
set_option maxRecDepth 1000000 in
set_option maxHeartbeats 4000000 in
theorem along1_out (n:Nat) (hn:1 ≤ n) (l B0 B1 B2 tb L:Nat) (f:Nat → Nat) (G:Nat → Prop) (Kp:World → World → Prop) (_hKp:∀ {A B:World} {k:Nat},Kp A B → G k → B.heap[k]? = A.heap[k]?) (v a:Int) (xs:List Int) (hxs:xs = alongM L f v a)
  (hv:v < -1 ∨ (L:Int) ≤ v) (_hL:L ≤ 1048576) (_hf:∀ i,i < L → i ≤ f i ∧ f i < L) (J Jx:List Int → World → Prop)
  (_hY:∀ pre x W,J pre W → pre.length < xs.length → (pre ++ [x]) <+: xs → YieldAt Fence.wide (n - 1) Tryz.prog l #[.int .i64 x] W fun e W'=>(e = .returned (.bool true) ∧ J (pre ++ [x]) W' ∧ Kp W W') ∨ (e = .returned (.bool false) ∧ Jx (pre ++ [x]) W'))
  (W:World) (hT:BoxT W G B0 B1 B2 tb L f v a) (h0:J [] W) :
  CallsIn Fence.wide n Tryz.prog 135 #[.func (.yield l) #[] #[],.pointer (some ⟨B0,0,none⟩),.pointer (some ⟨B1,0,none⟩),.pointer (some ⟨B2,0,none⟩)] W fun e W'=>(∃ v,e = .returned v) ∧
   ((∃ ys,ys = xs ∧ J ys W') ∨ (∃ pre,pre <+: xs ∧ Jx pre W')):=by
 have hro:Fence.wide.round = none:=rfl
 have HREF:Hid (Calls Tryz.prog 46 #[.pointer (some ⟨tb,0,none⟩),.int .i64 v,.int .i64 (-1)] W fun e w'=>e = .returned (.int .i64 2) ∧ w' = W):=Lib.hid (by
  by_cases h:v < -1
  ·exact refuses_low hT.tree v (-1) h
  ·exact refuses_high hT.tree v (-1) (by omega) (by omega))
 have c0:=hT.b0.cell
 have c1:=hT.b1.cell
 have c2:=hT.b2.cell
 clear hT _hY _hKp _hf
 refine callsIn_of_wp Tryz.func135 rfl trivial ?_ hro
 simp only [Tryz.ntmps135,List.size_toArray,List.length_cons,List.length_nil,Nat.reduceAdd,Nat.reduceSub,Array.replicate_succ,Array.replicate_zero,List.push_toArray,List.append_toArray,List.nil_append,List.cons_append]
 gi_wp2_with (refine ⟨trivial,?_⟩;gi_at_call 46;refine (callsIn_wide.2 HREF.out).mono ?_;rintro e w' ⟨rfl,hw⟩;subst w')
 refine bodyPost_ret (results_none rfl _ _ _) rfl ?_
 exact ⟨⟨_,rfl⟩,.inl ⟨[],by rw [hxs];unfold alongM;rw [if_pos (by omega)],h0⟩⟩
set_option maxRecDepth 1000000 in
set_option maxHeartbeats 4000000 in
theorem along1_low (n:Nat) (hn:1 ≤ n) (l B0 B1 B2 tb L:Nat) (f:Nat → Nat) (G:Nat → Prop) (Kp:World → World → Prop) (_hKp:∀ {A B:World} {k:Nat},Kp A B → G k → B.heap[k]? = A.heap[k]?) (v a:Int) (xs:List Int) (hxs:xs = alongM L f v a)
  (hv:-1 ≤ v) (hv2:v < L) (ha:a < 0) (_hL:L ≤ 1048576) (_hf:∀ i,i < L → i ≤ f i ∧ f i < L) (J Jx:List Int → World → Prop)
  (_hY:∀ pre x W,J pre W → pre.length < xs.length → (pre ++ [x]) <+: xs → YieldAt Fence.wide (n - 1) Tryz.prog l #[.int .i64 x] W fun e W'=>(e = .returned (.bool true) ∧ J (pre ++ [x]) W' ∧ Kp W W') ∨ (e = .returned (.bool false) ∧ Jx (pre ++ [x]) W'))
  (W:World) (hT:BoxT W G B0 B1 B2 tb L f v a) (h0:J [] W) :
  CallsIn Fence.wide n Tryz.prog 135 #[.func (.yield l) #[] #[],.pointer (some ⟨B0,0,none⟩),.pointer (some ⟨B1,0,none⟩),.pointer (some ⟨B2,0,none⟩)] W fun e W'=>(∃ v,e = .returned v) ∧
   ((∃ ys,ys = xs ∧ J ys W') ∨ (∃ pre,pre <+: xs ∧ Jx pre W')):=by
 have hro:Fence.wide.round = none:=rfl
 have HREF:Hid (Calls Tryz.prog 46 #[.pointer (some ⟨tb,0,none⟩),.int .i64 v,.int .i64 (-1)] W fun e w'=>e = .returned (.int .i64 0) ∧ w' = W):=Lib.hid (refuses_in hT.tree v (-1) hv hv2)
 have c0:=hT.b0.cell
 have c1:=hT.b1.cell
 have c2:=hT.b2.cell
 clear hT _hY _hKp _hf
 refine callsIn_of_wp Tryz.func135 rfl trivial ?_ hro
 simp only [Tryz.ntmps135,List.size_toArray,List.length_cons,List.length_nil,Nat.reduceAdd,Nat.reduceSub,Array.replicate_succ,Array.replicate_zero,List.push_toArray,List.append_toArray,List.nil_append,List.cons_append]
 gi_wp2_with (refine ⟨trivial,?_⟩;gi_at_call 46;refine (callsIn_wide.2 HREF.out).mono ?_;rintro e w' ⟨rfl,hw⟩;subst w')
 refine bodyPost_ret (results_none rfl _ _ _) rfl ?_
 exact ⟨⟨_,rfl⟩,.inl ⟨[],by rw [hxs];unfold alongM;rw [if_pos (by omega)],h0⟩⟩
set_option maxRecDepth 1000000 in
set_option maxHeartbeats 4000000 in
theorem along1_high (n:Nat) (hn:1 ≤ n) (l B0 B1 B2 tb L:Nat) (f:Nat → Nat) (G:Nat → Prop) (Kp:World → World → Prop) (_hKp:∀ {A B:World} {k:Nat},Kp A B → G k → B.heap[k]? = A.heap[k]?) (v a:Int) (xs:List Int) (hxs:xs = alongM L f v a)
  (hv:-1 ≤ v) (hv2:v < L) (ha0:0 ≤ a) (ha:3 < a) (_hL:L ≤ 1048576) (_hf:∀ i,i < L → i ≤ f i ∧ f i < L) (J Jx:List Int → World → Prop)
  (_hY:∀ pre x W,J pre W → pre.length < xs.length → (pre ++ [x]) <+: xs → YieldAt Fence.wide (n - 1) Tryz.prog l #[.int .i64 x] W fun e W'=>(e = .returned (.bool true) ∧ J (pre ++ [x]) W' ∧ Kp W W') ∨ (e = .returned (.bool false) ∧ Jx (pre ++ [x]) W'))
  (W:World) (hT:BoxT W G B0 B1 B2 tb L f v a) (h0:J [] W) :
  CallsIn Fence.wide n Tryz.prog 135 #[.func (.yield l) #[] #[],.pointer (some ⟨B0,0,none⟩),.pointer (some ⟨B1,0,none⟩),.pointer (some ⟨B2,0,none⟩)] W fun e W'=>(∃ v,e = .returned v) ∧
   ((∃ ys,ys = xs ∧ J ys W') ∨ (∃ pre,pre <+: xs ∧ Jx pre W')):=by
 have hro:Fence.wide.round = none:=rfl
 have HREF:Hid (Calls Tryz.prog 46 #[.pointer (some ⟨tb,0,none⟩),.int .i64 v,.int .i64 (-1)] W fun e w'=>e = .returned (.int .i64 0) ∧ w' = W):=Lib.hid (refuses_in hT.tree v (-1) hv hv2)
 have c0:=hT.b0.cell
 have c1:=hT.b1.cell
 have c2:=hT.b2.cell
 clear hT _hY _hKp _hf
 refine callsIn_of_wp Tryz.func135 rfl trivial ?_ hro
 simp only [Tryz.ntmps135,List.size_toArray,List.length_cons,List.length_nil,Nat.reduceAdd,Nat.reduceSub,Array.replicate_succ,Array.replicate_zero,List.push_toArray,List.append_toArray,List.nil_append,List.cons_append]
 gi_wp2_with (refine ⟨trivial,?_⟩;gi_at_call 46;refine (callsIn_wide.2 HREF.out).mono ?_;rintro e w' ⟨rfl,hw⟩;subst w')
 refine bodyPost_ret (results_none rfl _ _ _) rfl ?_
 exact ⟨⟨_,rfl⟩,.inl ⟨[],by rw [hxs];unfold alongM;rw [if_pos (by omega)],h0⟩⟩
set_option maxRecDepth 1000000 in
set_option maxHeartbeats 4000000 in
theorem along1_0 (n:Nat) (hn:1 ≤ n) (l B0 B1 B2 tb L:Nat) (f:Nat → Nat) (G:Nat → Prop) (Kp:World → World → Prop) (hKp:∀ {A B:World} {k:Nat},Kp A B → G k → B.heap[k]? = A.heap[k]?) (v:Int) (xs:List Int) (hxs:xs = alongM L f v 0)
  (hv:-1 ≤ v) (hv2:v < L) (hL:L ≤ 1048576) (hf:∀ i,i < L → i ≤ f i ∧ f i < L) (J Jx:List Int → World → Prop)
  (hY:∀ pre x W,J pre W → pre.length < xs.length → (pre ++ [x]) <+: xs → YieldAt Fence.wide (n - 1) Tryz.prog l #[.int .i64 x] W fun e W'=>(e = .returned (.bool true) ∧ J (pre ++ [x]) W' ∧ Kp W W') ∨ (e = .returned (.bool false) ∧ Jx (pre ++ [x]) W'))
  (W:World) (hT:BoxT W G B0 B1 B2 tb L f v 0) (h0:J [] W) :
  CallsIn Fence.wide n Tryz.prog 135 #[.func (.yield l) #[] #[],.pointer (some ⟨B0,0,none⟩),.pointer (some ⟨B1,0,none⟩),.pointer (some ⟨B2,0,none⟩)] W fun e W'=>(∃ v,e = .returned v) ∧
   ((∃ ys,ys = xs ∧ J ys W') ∨ (∃ pre,pre <+: xs ∧ Jx pre W')):=by
 have hro:Fence.wide.round = none:=rfl
 have HREF:Hid (Calls Tryz.prog 46 #[.pointer (some ⟨tb,0,none⟩),.int .i64 v,.int .i64 (-1)] W fun e w'=>e = .returned (.int .i64 0) ∧ w' = W):=Lib.hid (refuses_in hT.tree v (-1) hv hv2)
 have HT:=Lib.hid hT
 have hhi:hiOf L f v ≤ L:=by
  unfold hiOf
  split
  ·exact Nat.le_refl _
  ·have:=(hf v.toNat (by omega)).2;omega
 have ew0:IntKind.i64.wrap (v + 1) = v + 1:=IntWalk.i64_in _ (by omega)
 have c0:=hT.b0.cell
 have c1:=hT.b1.cell
 have c2:=hT.b2.cell
 clear hT
 have hxs0:xs = [] ++ stepsF (nextOf f 0) (hiOf L f v) L (v + 1).toNat:=by
  rw [hxs];unfold alongM;rw [if_neg (by omega),if_neg (by omega),if_neg (by omega)]
 refine callsIn_of_wp Tryz.func135 rfl trivial ?_ hro
 simp only [Tryz.ntmps135,List.size_toArray,List.length_cons,List.length_nil,Nat.reduceAdd,Nat.reduceSub,Array.replicate_succ,Array.replicate_zero,List.push_toArray,List.append_toArray,List.nil_append,List.cons_append]
 gi_wp2_with (refine ⟨trivial,?_⟩;gi_at_call 46;refine (callsIn_wide.2 HREF.out).mono ?_;rintro e w' ⟨rfl,hw⟩;subst w')
 refine ⟨fun _ h=>(by cases h),?_⟩
 gi_wp2
 gi_loopw [5] (fun iv wr=>∃ (pre:List Int) (k m:Nat),iv = .int .i64 k ∧ hiOf L f v ≤ k + m ∧ Hid (xs = pre ++ stepsF (nextOf f 0) (hiOf L f v) m k) ∧ J pre wr ∧ Hid (∀ k,G k → wr.heap[k]? = W.heap[k]?)) (fun iv _=>hiOf L f v - (intOf iv).toNat)
 case atStart=>exact ⟨[],(v + 1).toNat,L,by rw [Int.toNat_of_nonneg (by omega)],by omega,Lib.hid hxs0,h0,Lib.hid (fun _ _=>rfl)⟩
 case round =>
  obtain ⟨pre,k,m,rfl,hm,hxe,hJs,hgk⟩:=hrel
  have hTr:=Lib.hid (HT.out.keep hgk.out)
  have d0:=hTr.out.b0.cell
  have d1:=hTr.out.b1.cell
  have HLA:=Lib.hid (lastv hTr.out.tree hL v hv2)
  by_cases hlt:k < hiOf L f v
  ·have hkL:k < L:=by omega
   have hk1:(k:Int) ≤ (hiOf L f v:Nat) - 1:=by omega
   have hxe2:=hxe.out
   rw [stepsF_at hlt hm] at hxe2
   obtain ⟨fn,tmps,assign,body,hy,hR⟩:=hY pre (k:Int) wr hJs (by rw [hxe2];simp) ⟨_,by rw [hxe2,List.append_assoc];rfl⟩
   have ew:IntKind.i64.wrap ((k:Int) + 1) = (k:Int) + 1:=IntWalk.i64_in _ (by omega)
   gi_wp2_with (refine ⟨trivial,?_⟩;gi_at_call 136;refine (callsIn_wide.2 HLA.out).mono ?_;rintro e w' ⟨rfl,hw⟩;subst w')
   refine hR.mono ?_
   rintro e W3 (⟨rfl,hJ3,hk3⟩ | ⟨rfl,hJx3⟩)
   ·have hg3:∀ k,G k → W3.heap[k]? = W.heap[k]?:=fun k hk=>(hKp hk3 hk).trans (hgk.out k hk)
    have hT3:=Lib.hid (HT.out.keep hg3)
    have f0:=hT3.out.b0.cell
    have f2:=hT3.out.b2.cell
    have HLK:=Lib.hid (last_at hT3.out.tree k hkL)
    have hfk:=hf k hkL
    have ew2:IntKind.i64.wrap ((f k:Int) + 1) = (f k:Int) + 1:=IntWalk.i64_in _ (by omega)
    gi_wp2_with (refine ⟨trivial,?_⟩;gi_at_call 136;refine (callsIn_wide.2 HLK.out).mono ?_;rintro e w' ⟨rfl,hw⟩;subst w')
    go_roundw
    case rel=>exact ⟨pre ++ [(k:Int)],f k + 1,m - 1,by go_num,by omega,Lib.hid (by rw [hxe2,List.append_assoc];rfl),hJ3,Lib.hid hg3⟩
    case measure=>simp [intOf];omega
   ·gi_wp2
    refine bodyPost_ret (results_none rfl _ _ _) rfl ?_
    exact ⟨⟨_,rfl⟩,.inr ⟨pre ++ [(k:Int)],⟨_,by rw [hxe2,List.append_assoc];rfl⟩,hJx3⟩⟩
  ·have hk1:(hiOf L f v:Nat) - 1 < (k:Int):=by omega
   have hxe2:=hxe.out
   rw [stepsF_end (by omega),List.append_nil] at hxe2
   gi_wp2_with (refine ⟨trivial,?_⟩;gi_at_call 136;refine (callsIn_wide.2 HLA.out).mono ?_;rintro e w' ⟨rfl,hw⟩;subst w')
   go_end0
   exact ⟨⟨_,rfl⟩,.inl ⟨pre,hxe2.symm,hJs⟩⟩
set_option maxRecDepth 1000000 in
set_option maxHeartbeats 4000000 in
theorem along1_1 (n:Nat) (hn:1 ≤ n) (l B0 B1 B2 tb L:Nat) (f:Nat → Nat) (G:Nat → Prop) (Kp:World → World → Prop) (hKp:∀ {A B:World} {k:Nat},Kp A B → G k → B.heap[k]? = A.heap[k]?) (v:Int) (xs:List Int) (hxs:xs = alongM L f v 1)
  (hv:-1 ≤ v) (hv2:v < L) (hL:L ≤ 1048576) (hf:∀ i,i < L → i ≤ f i ∧ f i < L) (J Jx:List Int → World → Prop)
  (hY:∀ pre x W,J pre W → pre.length < xs.length → (pre ++ [x]) <+: xs → YieldAt Fence.wide (n - 1) Tryz.prog l #[.int .i64 x] W fun e W'=>(e = .returned (.bool true) ∧ J (pre ++ [x]) W' ∧ Kp W W') ∨ (e = .returned (.bool false) ∧ Jx (pre ++ [x]) W'))
  (W:World) (hT:BoxT W G B0 B1 B2 tb L f v 1) (h0:J [] W) :
  CallsIn Fence.wide n Tryz.prog 135 #[.func (.yield l) #[] #[],.pointer (some ⟨B0,0,none⟩),.pointer (some ⟨B1,0,none⟩),.pointer (some ⟨B2,0,none⟩)] W fun e W'=>(∃ v,e = .returned v) ∧
   ((∃ ys,ys = xs ∧ J ys W') ∨ (∃ pre,pre <+: xs ∧ Jx pre W')):=by
 have hro:Fence.wide.round = none:=rfl
 have HREF:Hid (Calls Tryz.prog 46 #[.pointer (some ⟨tb,0,none⟩),.int .i64 v,.int .i64 (-1)] W fun e w'=>e = .returned (.int .i64 0) ∧ w' = W):=Lib.hid (refuses_in hT.tree v (-1) hv hv2)
 have HT:=Lib.hid hT
 have hhi:hiOf L f v ≤ L:=by
  unfold hiOf
  split
  ·exact Nat.le_refl _
  ·have:=(hf v.toNat (by omega)).2;omega
 have ew0:IntKind.i64.wrap (v + 1) = v + 1:=IntWalk.i64_in _ (by omega)
 have c0:=hT.b0.cell
 have c1:=hT.b1.cell
 have c2:=hT.b2.cell
 clear hT
 have hxs0:xs = [] ++ stepsF (nextOf f 1) (hiOf L f v) L (v + 1).toNat:=by
  rw [hxs];unfold alongM;rw [if_neg (by omega),if_neg (by omega),if_neg (by omega)]
 refine callsIn_of_wp Tryz.func135 rfl trivial ?_ hro
 simp only [Tryz.ntmps135,List.size_toArray,List.length_cons,List.length_nil,Nat.reduceAdd,Nat.reduceSub,Array.replicate_succ,Array.replicate_zero,List.push_toArray,List.append_toArray,List.nil_append,List.cons_append]
 gi_wp2_with (refine ⟨trivial,?_⟩;gi_at_call 46;refine (callsIn_wide.2 HREF.out).mono ?_;rintro e w' ⟨rfl,hw⟩;subst w')
 refine ⟨fun _ h=>(by cases h),?_⟩
 gi_wp2
 gi_loopw [5] (fun iv wr=>∃ (pre:List Int) (k m:Nat),iv = .int .i64 k ∧ hiOf L f v ≤ k + m ∧ Hid (xs = pre ++ stepsF (nextOf f 1) (hiOf L f v) m k) ∧ J pre wr ∧ Hid (∀ k,G k → wr.heap[k]? = W.heap[k]?)) (fun iv _=>hiOf L f v - (intOf iv).toNat)
 case atStart=>exact ⟨[],(v + 1).toNat,L,by rw [Int.toNat_of_nonneg (by omega)],by omega,Lib.hid hxs0,h0,Lib.hid (fun _ _=>rfl)⟩
 case round =>
  obtain ⟨pre,k,m,rfl,hm,hxe,hJs,hgk⟩:=hrel
  have hTr:=Lib.hid (HT.out.keep hgk.out)
  have d0:=hTr.out.b0.cell
  have d1:=hTr.out.b1.cell
  have HLA:=Lib.hid (lastv hTr.out.tree hL v hv2)
  by_cases hlt:k < hiOf L f v
  ·have hkL:k < L:=by omega
   have hk1:(k:Int) ≤ (hiOf L f v:Nat) - 1:=by omega
   have hxe2:=hxe.out
   rw [stepsF_at hlt hm] at hxe2
   obtain ⟨fn,tmps,assign,body,hy,hR⟩:=hY pre (k:Int) wr hJs (by rw [hxe2];simp) ⟨_,by rw [hxe2,List.append_assoc];rfl⟩
   have ew:IntKind.i64.wrap ((k:Int) + 1) = (k:Int) + 1:=IntWalk.i64_in _ (by omega)
   gi_wp2_with (refine ⟨trivial,?_⟩;gi_at_call 136;refine (callsIn_wide.2 HLA.out).mono ?_;rintro e w' ⟨rfl,hw⟩;subst w')
   refine hR.mono ?_
   rintro e W3 (⟨rfl,hJ3,hk3⟩ | ⟨rfl,hJx3⟩)
   ·have hg3:∀ k,G k → W3.heap[k]? = W.heap[k]?:=fun k hk=>(hKp hk3 hk).trans (hgk.out k hk)
    have hT3:=Lib.hid (HT.out.keep hg3)
    have f0:=hT3.out.b0.cell
    have f2:=hT3.out.b2.cell
    gi_wp2
    go_roundw
    case rel=>exact ⟨pre ++ [(k:Int)],k + 1,m - 1,by go_num,by omega,Lib.hid (by rw [hxe2,List.append_assoc];rfl),hJ3,Lib.hid hg3⟩
    case measure=>simp [intOf];omega
   ·gi_wp2
    refine bodyPost_ret (results_none rfl _ _ _) rfl ?_
    exact ⟨⟨_,rfl⟩,.inr ⟨pre ++ [(k:Int)],⟨_,by rw [hxe2,List.append_assoc];rfl⟩,hJx3⟩⟩
  ·have hk1:(hiOf L f v:Nat) - 1 < (k:Int):=by omega
   have hxe2:=hxe.out
   rw [stepsF_end (by omega),List.append_nil] at hxe2
   gi_wp2_with (refine ⟨trivial,?_⟩;gi_at_call 136;refine (callsIn_wide.2 HLA.out).mono ?_;rintro e w' ⟨rfl,hw⟩;subst w')
   go_end0
   exact ⟨⟨_,rfl⟩,.inl ⟨pre,hxe2.symm,hJs⟩⟩
set_option maxRecDepth 1000000 in
set_option maxHeartbeats 4000000 in
theorem along1_2 (n:Nat) (hn:1 ≤ n) (l B0 B1 B2 tb L:Nat) (f:Nat → Nat) (G:Nat → Prop) (Kp:World → World → Prop) (hKp:∀ {A B:World} {k:Nat},Kp A B → G k → B.heap[k]? = A.heap[k]?) (v:Int) (xs:List Int) (hxs:xs = alongM L f v 2)
  (hv:-1 ≤ v) (hv2:v < L) (hL:L ≤ 1048576) (hf:∀ i,i < L → i ≤ f i ∧ f i < L) (J Jx:List Int → World → Prop)
  (hY:∀ pre x W,J pre W → pre.length < xs.length → (pre ++ [x]) <+: xs → YieldAt Fence.wide (n - 1) Tryz.prog l #[.int .i64 x] W fun e W'=>(e = .returned (.bool true) ∧ J (pre ++ [x]) W' ∧ Kp W W') ∨ (e = .returned (.bool false) ∧ Jx (pre ++ [x]) W'))
  (W:World) (hT:BoxT W G B0 B1 B2 tb L f v 2) (h0:J [] W) :
  CallsIn Fence.wide n Tryz.prog 135 #[.func (.yield l) #[] #[],.pointer (some ⟨B0,0,none⟩),.pointer (some ⟨B1,0,none⟩),.pointer (some ⟨B2,0,none⟩)] W fun e W'=>(∃ v,e = .returned v) ∧
   ((∃ ys,ys = xs ∧ J ys W') ∨ (∃ pre,pre <+: xs ∧ Jx pre W')):=by
 have hro:Fence.wide.round = none:=rfl
 have HREF:Hid (Calls Tryz.prog 46 #[.pointer (some ⟨tb,0,none⟩),.int .i64 v,.int .i64 (-1)] W fun e w'=>e = .returned (.int .i64 0) ∧ w' = W):=Lib.hid (refuses_in hT.tree v (-1) hv hv2)
 have HT:=Lib.hid hT
 have hhi:hiOf L f v ≤ L:=by
  unfold hiOf
  split
  ·exact Nat.le_refl _
  ·have:=(hf v.toNat (by omega)).2;omega
 have ew0:IntKind.i64.wrap (v + 1) = v + 1:=IntWalk.i64_in _ (by omega)
 have c0:=hT.b0.cell
 have c1:=hT.b1.cell
 have c2:=hT.b2.cell
 clear hT
 have hxs0:xs = [v] ++ stepsF (nextOf f 2) (hiOf L f v) L (v + 1).toNat:=by
  rw [hxs];unfold alongM;rw [if_neg (by omega),if_pos (by omega),if_neg (by omega)]
 obtain ⟨fn,tmps,assign,body,hy,hR⟩:=hY [] v W h0 (by rw [hxs0];simp) ⟨_,hxs0.symm⟩
 refine callsIn_of_wp Tryz.func135 rfl trivial ?_ hro
 simp only [Tryz.ntmps135,List.size_toArray,List.length_cons,List.length_nil,Nat.reduceAdd,Nat.reduceSub,Array.replicate_succ,Array.replicate_zero,List.push_toArray,List.append_toArray,List.nil_append,List.cons_append]
 gi_wp2_with (refine ⟨trivial,?_⟩;gi_at_call 46;refine (callsIn_wide.2 HREF.out).mono ?_;rintro e w' ⟨rfl,hw⟩;subst w')
 refine hR.mono ?_
 rintro e W2 (⟨rfl,hJ2,hk2⟩ | ⟨rfl,hJx2⟩)
 ·have hg2:∀ k,G k → W2.heap[k]? = W.heap[k]?:=fun k hk=>hKp hk2 hk
  have hT2:=Lib.hid (HT.out.keep hg2)
  have a1:=hT2.out.b1.cell
  have a2:=hT2.out.b2.cell
  gi_wp2
  gi_loopw [5] (fun iv wr=>∃ (pre:List Int) (k m:Nat),iv = .int .i64 k ∧ hiOf L f v ≤ k + m ∧ Hid (xs = pre ++ stepsF (nextOf f 2) (hiOf L f v) m k) ∧ J pre wr ∧ Hid (∀ k,G k → wr.heap[k]? = W.heap[k]?)) (fun iv _=>hiOf L f v - (intOf iv).toNat)
  case atStart=>exact ⟨[v],(v + 1).toNat,L,by rw [Int.toNat_of_nonneg (by omega)],by omega,Lib.hid hxs0,hJ2,Lib.hid hg2⟩
  case round =>
   obtain ⟨pre,k,m,rfl,hm,hxe,hJs,hgk⟩:=hrel
   have hTr:=Lib.hid (HT.out.keep hgk.out)
   have d0:=hTr.out.b0.cell
   have d1:=hTr.out.b1.cell
   have HLA:=Lib.hid (lastv hTr.out.tree hL v hv2)
   by_cases hlt:k < hiOf L f v
   ·have hkL:k < L:=by omega
    have hk1:(k:Int) ≤ (hiOf L f v:Nat) - 1:=by omega
    have hxe2:=hxe.out
    rw [stepsF_at hlt hm] at hxe2
    obtain ⟨fn,tmps,assign,body,hy,hR⟩:=hY pre (k:Int) wr hJs (by rw [hxe2];simp) ⟨_,by rw [hxe2,List.append_assoc];rfl⟩
    have ew:IntKind.i64.wrap ((k:Int) + 1) = (k:Int) + 1:=IntWalk.i64_in _ (by omega)
    gi_wp2_with (refine ⟨trivial,?_⟩;gi_at_call 136;refine (callsIn_wide.2 HLA.out).mono ?_;rintro e w' ⟨rfl,hw⟩;subst w')
    refine hR.mono ?_
    rintro e W3 (⟨rfl,hJ3,hk3⟩ | ⟨rfl,hJx3⟩)
    ·have hg3:∀ k,G k → W3.heap[k]? = W.heap[k]?:=fun k hk=>(hKp hk3 hk).trans (hgk.out k hk)
     have hT3:=Lib.hid (HT.out.keep hg3)
     have f0:=hT3.out.b0.cell
     have f2:=hT3.out.b2.cell
     gi_wp2
     go_roundw
     case rel=>exact ⟨pre ++ [(k:Int)],k + 1,m - 1,by go_num,by omega,Lib.hid (by rw [hxe2,List.append_assoc];rfl),hJ3,Lib.hid hg3⟩
     case measure=>simp [intOf];omega
    ·gi_wp2
     refine bodyPost_ret (results_none rfl _ _ _) rfl ?_
     exact ⟨⟨_,rfl⟩,.inr ⟨pre ++ [(k:Int)],⟨_,by rw [hxe2,List.append_assoc];rfl⟩,hJx3⟩⟩
   ·have hk1:(hiOf L f v:Nat) - 1 < (k:Int):=by omega
    have hxe2:=hxe.out
    rw [stepsF_end (by omega),List.append_nil] at hxe2
    gi_wp2_with (refine ⟨trivial,?_⟩;gi_at_call 136;refine (callsIn_wide.2 HLA.out).mono ?_;rintro e w' ⟨rfl,hw⟩;subst w')
    go_end0
    exact ⟨⟨_,rfl⟩,.inl ⟨pre,hxe2.symm,hJs⟩⟩
 ·gi_wp2
  refine bodyPost_ret (results_none rfl _ _ _) rfl ?_
  exact ⟨⟨_,rfl⟩,.inr ⟨[v],⟨_,hxs0.symm⟩,hJx2⟩⟩
set_option maxRecDepth 1000000 in
set_option maxHeartbeats 4000000 in
theorem along1_3 (n:Nat) (hn:1 ≤ n) (l B0 B1 B2 tb L:Nat) (f:Nat → Nat) (G:Nat → Prop) (Kp:World → World → Prop) (hKp:∀ {A B:World} {k:Nat},Kp A B → G k → B.heap[k]? = A.heap[k]?) (v:Int) (xs:List Int) (hxs:xs = alongM L f v 3)
  (hv:-1 ≤ v) (hv2:v < L) (hL:L ≤ 1048576) (hf:∀ i,i < L → i ≤ f i ∧ f i < L) (J Jx:List Int → World → Prop)
  (hY:∀ pre x W,J pre W → pre.length < xs.length → (pre ++ [x]) <+: xs → YieldAt Fence.wide (n - 1) Tryz.prog l #[.int .i64 x] W fun e W'=>(e = .returned (.bool true) ∧ J (pre ++ [x]) W' ∧ Kp W W') ∨ (e = .returned (.bool false) ∧ Jx (pre ++ [x]) W'))
  (W:World) (hT:BoxT W G B0 B1 B2 tb L f v 3) (h0:J [] W) :
  CallsIn Fence.wide n Tryz.prog 135 #[.func (.yield l) #[] #[],.pointer (some ⟨B0,0,none⟩),.pointer (some ⟨B1,0,none⟩),.pointer (some ⟨B2,0,none⟩)] W fun e W'=>(∃ v,e = .returned v) ∧
   ((∃ ys,ys = xs ∧ J ys W') ∨ (∃ pre,pre <+: xs ∧ Jx pre W')):=by
 have hro:Fence.wide.round = none:=rfl
 have HREF:Hid (Calls Tryz.prog 46 #[.pointer (some ⟨tb,0,none⟩),.int .i64 v,.int .i64 (-1)] W fun e w'=>e = .returned (.int .i64 0) ∧ w' = W):=Lib.hid (refuses_in hT.tree v (-1) hv hv2)
 have HT:=Lib.hid hT
 have hhi:hiOf L f v ≤ L:=by
  unfold hiOf
  split
  ·exact Nat.le_refl _
  ·have:=(hf v.toNat (by omega)).2;omega
 have ew0:IntKind.i64.wrap (v + 1) = v + 1:=IntWalk.i64_in _ (by omega)
 have c0:=hT.b0.cell
 have c1:=hT.b1.cell
 have c2:=hT.b2.cell
 clear hT
 have hxs0:xs = [v]:=by
  rw [hxs];unfold alongM;rw [if_neg (by omega),if_pos (by omega),if_pos (by omega)];rfl
 obtain ⟨fn,tmps,assign,body,hy,hR⟩:=hY [] v W h0 (by rw [hxs0];simp) ⟨[],by rw [hxs0];rfl⟩
 refine callsIn_of_wp Tryz.func135 rfl trivial ?_ hro
 simp only [Tryz.ntmps135,List.size_toArray,List.length_cons,List.length_nil,Nat.reduceAdd,Nat.reduceSub,Array.replicate_succ,Array.replicate_zero,List.push_toArray,List.append_toArray,List.nil_append,List.cons_append]
 gi_wp2_with (refine ⟨trivial,?_⟩;gi_at_call 46;refine (callsIn_wide.2 HREF.out).mono ?_;rintro e w' ⟨rfl,hw⟩;subst w')
 refine hR.mono ?_
 rintro e W2 (⟨rfl,hJ2,hk2⟩ | ⟨rfl,hJx2⟩)
 ·have hg2:∀ k,G k → W2.heap[k]? = W.heap[k]?:=fun k hk=>hKp hk2 hk
  have hT2:=Lib.hid (HT.out.keep hg2)
  have a1:=hT2.out.b1.cell
  have a2:=hT2.out.b2.cell
  gi_wp2
  refine bodyPost_ret (results_none rfl _ _ _) rfl ?_
  exact ⟨⟨_,rfl⟩,.inl ⟨[v],hxs0.symm,hJ2⟩⟩
 ·gi_wp2
  refine bodyPost_ret (results_none rfl _ _ _) rfl ?_
  exact ⟨⟨_,rfl⟩,.inr ⟨[v],⟨[],by rw [hxs0];rfl⟩,hJx2⟩⟩
theorem along_rounds (n:Nat) (hn:1 ≤ n) (B0 B1 B2 tb L:Nat) (f:Nat → Nat) (G:Nat → Prop) (Kp:World → World → Prop) (hKp:∀ {A B:World} {k:Nat},Kp A B → G k → B.heap[k]? = A.heap[k]?) (v a:Int)
  (hL:L ≤ 1048576) (hf:∀ i,i < L → i ≤ f i ∧ f i < L) (w:World) (hG:∀ k,G k → k < w.heap.size) (hT:BoxT w G B0 B1 B2 tb L f v a) (l:Nat) (J Jx:List Int → World → Prop) (W:World) (hW:Below w.heap.size w W)
  (hY:∀ pre x W,J pre W → pre.length < (alongM L f v a).length → (pre ++ [x]) <+: alongM L f v a → YieldAt Fence.wide (n - 1) Tryz.prog l #[.int .i64 x] W fun e W'=>(e = .returned (.bool true) ∧ J (pre ++ [x]) W' ∧ Kp W W') ∨ (e = .returned (.bool false) ∧ Jx (pre ++ [x]) W')) (h0:J [] W) :
  CallsIn Fence.wide n Tryz.prog 135 #[.func (.yield l) #[] #[],.pointer (some ⟨B0,0,none⟩),.pointer (some ⟨B1,0,none⟩),.pointer (some ⟨B2,0,none⟩)] W fun e W'=>(∃ v,e = .returned v) ∧
   ((∃ ys,ys = alongM L f v a ∧ J ys W') ∨ (∃ pre,pre <+: alongM L f v a ∧ Jx pre W')):=by
 have hT2:=hT.keep (B:=W) (fun k hk=>hW.block k (hG k hk))
 by_cases hv:v < -1 ∨ (L:Int) ≤ v
 ·exact along1_out n hn l B0 B1 B2 tb L f G Kp hKp v a _ rfl hv hL hf J Jx hY W hT2 h0
 have hv1:-1 ≤ v:=by omega
 have hv2:v < L:=by omega
 by_cases ha:a < 0
 ·exact along1_low n hn l B0 B1 B2 tb L f G Kp hKp v a _ rfl hv1 hv2 ha hL hf J Jx hY W hT2 h0
 by_cases ha2:3 < a
 ·exact along1_high n hn l B0 B1 B2 tb L f G Kp hKp v a _ rfl hv1 hv2 (by omega) ha2 hL hf J Jx hY W hT2 h0
 obtain rfl | rfl | rfl | rfl:a = 0 ∨ a = 1 ∨ a = 2 ∨ a = 3:=by omega
 ·exact along1_0 n hn l B0 B1 B2 tb L f G Kp hKp v _ rfl hv1 hv2 hL hf J Jx hY W hT2 h0
 ·exact along1_1 n hn l B0 B1 B2 tb L f G Kp hKp v _ rfl hv1 hv2 hL hf J Jx hY W hT2 h0
 ·exact along1_2 n hn l B0 B1 B2 tb L f G Kp hKp v _ rfl hv1 hv2 hL hf J Jx hY W hT2 h0
 ·exact along1_3 n hn l B0 B1 B2 tb L f G Kp hKp v _ rfl hv1 hv2 hL hf J Jx hY W hT2 h0
abbrev NodeN (L:Nat):={ x:Int // -1 ≤ x ∧ x < (L:Int) }
theorem along_nodes (n:Nat) (hn:1 ≤ n) (B0 B1 B2 tb L:Nat) (f:Nat → Nat) (G:Nat → Prop) (Kp:World → World → Prop) (hKp:∀ {A B:World} {k:Nat},Kp A B → G k → B.heap[k]? = A.heap[k]?) (v a:Int)
  (hL:L ≤ 1048576) (hf:∀ i,i < L → i ≤ f i ∧ f i < L) (w:World) (hG:∀ k,G k → k < w.heap.size) (hT:BoxT w G B0 B1 B2 tb L f v a) (hin:∀ x ∈ alongM L f v a,-1 ≤ x ∧ x < (L:Int)) :
  SeqStopsK Fence.wide n Tryz.prog 135 #[.pointer (some ⟨B0,0,none⟩),.pointer (some ⟨B1,0,none⟩),.pointer (some ⟨B2,0,none⟩)] (fun x:NodeN L=>#[Value.int .i64 x.1]) Kp (fun ys=>ys.map (·.1) = alongM L f v a) (fun pre=>pre.map (·.1) <+: alongM L f v a) (alongM L f v a).length w:=fun l J Jx W hW _ _ hY h0=>by
 refine (along_rounds n hn B0 B1 B2 tb L f G Kp hKp v a hL hf w hG hT l (fun pre W=>∃ p:List (NodeN L),p.map (·.1) = pre ∧ J p W) (fun pre W=>∃ p:List (NodeN L),p.map (·.1) = pre ∧ Jx p W) W hW ?_ ⟨[],rfl,h0⟩).mono ?_
 ·rintro pre x W1 ⟨p,rfl,hJ⟩ hlt hp
  have hx:=hin x (hp.subset (by simp))
  obtain ⟨fn,tmps,assign,body,hy,hR⟩:=hY p ⟨x,hx⟩ W1 hJ (by rwa [List.length_map] at hlt)
  refine ⟨fn,tmps,assign,body,hy,hR.mono ?_⟩
  rintro e W' (⟨h1,h2,h3⟩ | ⟨h1,h2⟩)
  ·exact .inl ⟨h1,⟨p ++ [⟨x,hx⟩],by simp,h2⟩,h3⟩
  ·exact .inr ⟨h1,⟨p ++ [⟨x,hx⟩],by simp,h2⟩⟩
 ·rintro e W' ⟨h1,(⟨ys,rfl,p,h2,h3⟩ | ⟨pre,h2,p,rfl,h3⟩)⟩
  ·exact ⟨h1,.inl ⟨p,h2,h3⟩⟩
  ·exact ⟨h1,.inr ⟨p,h2,h3⟩⟩
end Go.Proofs.YtgjokdngbocehaaGreatDoor
