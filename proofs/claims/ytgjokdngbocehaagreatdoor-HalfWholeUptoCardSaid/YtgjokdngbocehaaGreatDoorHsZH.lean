/-
  (*tree.Tree).Print of a node that is there.
-/
import Derived.Test.YtgjokdngbocehaaGreatDoorHsA
import Derived.Test.YtgjokdngbocehaaGreatDoorHsC
import Derived.Test.YtgjokdngbocehaaGreatDoorHsD
import Derived.Test.YtgjokdngbocehaaGreatDoorHsE
import Derived.Test.YtgjokdngbocehaaGreatDoorHsF
import Derived.Test.YtgjokdngbocehaaGreatDoorHsH
import Derived.Test.YtgjokdngbocehaaGreatDoorHsL
import Derived.Test.YtgjokdngbocehaaGreatDoorHsM
import Derived.Test.YtgjokdngbocehaaGreatDoorHsN
import Derived.Test.YtgjokdngbocehaaGreatDoorHsO
import Derived.Test.YtgjokdngbocehaaGreatDoorHsZG
namespace Go.Proofs.YtgjokdngbocehaaGreatDoor
open Go.RowKit
theorem refuses_ok (tb:Nat) (q:Value) (an:Option Addr) (nn cn i:Nat) (w:World) (h:w.heap[tb]? = some (.cells #[q,.slice an nn cn] 109 (0,0))) (hi:i < nn) :
  Calls Tryz.prog 46 #[.pointer (some ⟨tb,0,none⟩),.int .i64 i,.int .i64 (-1)] w fun e w'=>e = .returned (.int .i64 0) ∧ w' = w:=by
 have c1:w.cell? ⟨tb,1,none⟩ = some (.slice an nn cn):=by rw [cell_heap h];rfl
 have h1:decide ((i:Int) < -1) = false:=by rw [decide_eq_false_iff_not];omega
 have h2:(i:Int) < (nn:Int):=by omega
 clear h
 go_enter Tryz.func46,Tryz.ntmps46
 go_wp2_with fail
 go_ret
 exact ⟨rfl,rfl⟩
theorem EvsAt.sub {w:World} {ge n:Nat} {evs:List Ev} (h:EvsAt w (some ⟨ge,0,none⟩) n evs) (i j:Nat) (hij:i ≤ j) (hj:j ≤ n):EvsAt w (some ⟨ge,i * 8,none⟩) (j - i) ((evs.take j).drop i):=by
 have hn:=h.1
 have hl:((evs.take j).drop i).length = j - i:=by rw [List.length_drop,List.length_take];omega
 refine ⟨hl.symm,fun q hq=>?_⟩
 rw [hl] at hq
 have hqe:i + q < evs.length:=by omega
 obtain ⟨b,o,A,m,c,e,hb,hmc,hA,hc⟩:=h.2 (i + q) hqe
 cases e
 have hg:((evs.take j).drop i)[q]'(by rw [hl];exact hq) = evs[i + q]:=by rw [List.getElem_drop,List.getElem_take]
 rw [hg]
 refine ⟨ge,i * 8,A,m,c,rfl,hb,hmc,hA,fun r hr=>?_⟩
 rw [← hc r hr]
 congr 2
 omega
set_option maxRecDepth 100000 in
set_option maxHeartbeats 4000000 in
theorem tprint_ok (tb i:Nat) (x:Nd) (evs:List Ev) (w:World) {B:Nat} (h:TreeAt w B tb evs) (hx:(nodesB evs)[i]? = some x) (hw:wtEs evs ≤ 1048576) (h1:x.pos < x.fin) (h2:x.fin ≤ evs.length) :
  Calls Tryz.prog 26 #[.pointer (some ⟨tb,0,none⟩),.int .i64 i] w fun e w'=>e = .returned (.tuple #[.string (strL (((evs.take x.fin).drop x.pos).flatMap evOut)),.int .i64 0]) ∧ Below w.heap.size w w':=by
 obtain ⟨_,_,ge,n,an,cn,htb,hne,hcn,_,hgew,hev,hnd⟩:=h
 have hE:EvsAt w (some ⟨ge,0,none⟩) n evs:=⟨hne,fun i hi=>by
  obtain ⟨A,m,c,g1,g2,_,g4⟩:=hev i hi
  exact ⟨ge,0,A,m,c,rfl,hgew,g1,g2,fun j hj=>by rw [Nat.zero_add];exact g4 j hj⟩⟩
 obtain ⟨b,e,A,m,c,rfl,_,hb,he,hmc,hA,_,hc⟩:=hnd i x hx
 clear hev hgew hne
 have hil:=get_lt hx
 have hn:=hE.1
 have HREF:Hid (Calls Tryz.prog 46 #[.pointer (some ⟨tb,0,none⟩),.int .i64 i,.int .i64 (-1)] w fun e w'=>e = .returned (.int .i64 0) ∧ w' = w):=Lib.hid (refuses_ok tb _ _ _ cn i w htb hil)
 have HPR:Hid (∀ W,Below w.heap.size w W → Calls Tryz.prog 37 #[.slice (some ⟨ge,x.pos * 8,none⟩) (x.fin - x.pos) (n - x.pos)] W fun e w'=>e = .returned (.string (strL (((evs.take x.fin).drop x.pos).flatMap evOut))) ∧ Below W.heap.size W w'):=Lib.hid fun W hW =>
  canonPrint_any _ _ _ _ W ((hE.sub x.pos x.fin (by omega) (by omega)).below hW) (Nat.le_trans (wtEs_sub _ _ _) hw)
 have c0:w.cell? ⟨tb,0,none⟩ = some (.slice (some ⟨ge,0,none⟩) n n):=by rw [cell_heap htb];rfl
 have c1:w.cell? ⟨tb,1,none⟩ = some (.slice (some ⟨b,0,none⟩) (nodesB evs).length cn):=by rw [cell_heap htb];rfl
 have e0:=hc 0 (by decide)
 have e1:=hc 1 (by decide)
 have e2:=hc 2 (by decide)
 have e3:=hc 3 (by decide)
 have e4:=hc 4 (by decide)
 have e5:=hc 5 (by decide)
 have e6:=hc 6 (by decide)
 have e7:=hc 7 (by decide)
 have e8:=hc 8 (by decide)
 have e9:=hc 9 (by decide)
 have e10:=hc 10 (by decide)
 have e11:=hc 11 (by decide)
 simp only [ndL,evL,evC,List.cons_append,List.nil_append,List.getElem?_cons_zero,List.getElem?_cons_succ,Nat.add_zero] at e0 e1 e2 e3 e4 e5 e6 e7 e8 e9 e10 e11
 generalize (nodesB evs).length = nn at *
 have i1:(0:Int) ≤ (i:Int):=by omega
 have i2:(i:Int) < (nn:Int):=by omega
 have htw:=heap_lt htb
 clear hnd hE hc hA hx he hil hcn htb
 generalize (List.flatMap evOut (List.drop x.pos (List.take x.fin evs))) = OUT at *
 generalize x.pos = p at *
 generalize x.fin = f at *
 have hfn:f ≤ n:=by omega
 have hpn:p < n:=by omega
 clear hn hw
 have HB0:Hid (∀ o,Below w.heap.size w (w.alloc o) ∧ (w.alloc o).heap[w.heap.size]? = some o ∧ (w.alloc o).heap.size = w.heap.size + 1):=Lib.hid fun o=>⟨(Below.refl _ _).alloc (Nat.le_refl _) _,heap_alloc_new w o,by simp⟩
 have HTW:=Lib.hid htw
 have HC0:=Lib.hid c0
 clear htw hb
 go_enter Tryz.func26,Tryz.ntmps26
 go_wp2_with fail
 (with_reducible refine HREF.out.mono ?_)
 rintro r w9 ⟨rfl,hw9⟩
 rw [hw9]
 clear hw9
 go_wp2_with fail
 obtain ⟨W1,hW1⟩:∃ W1,W1 = w.alloc (.cells #[.int .i64 e.kind,.int .i64 e.num,.int .i64 e.dep,.string (strL e.name),.slice A m c,.string (strL e.text),.int .i64 e.fr,.int .i64 e.tt,.int .i64 x.par,.int .i64 x.last,.int .i64 p,.int .i64 f] 113):=⟨_,rfl⟩
 rw [← hW1]
 obtain ⟨g1,g2,g3⟩:=HB0.out (.cells #[.int .i64 e.kind,.int .i64 e.num,.int .i64 e.dep,.string (strL e.name),.slice A m c,.string (strL e.text),.int .i64 e.fr,.int .i64 e.tt,.int .i64 x.par,.int .i64 x.last,.int .i64 p,.int .i64 f] 113)
 rw [← hW1] at g1 g2 g3
 have hS:∀ w',Below W1.heap.size W1 w' → w'.cell? ⟨tb,0,none⟩ = some (.slice (some ⟨ge,0,none⟩) n n) ∧ w'.cell? ⟨w.heap.size,10,none⟩ = some (.int .i64 p) ∧ w'.cell? ⟨w.heap.size,11,none⟩ = some (.int .i64 f) ∧ Below W1.heap.size W1 w':=fun w' hb=>by
  have e:=(hb.block w.heap.size (by omega)).trans g2
  exact ⟨((g1.trans (hb.mono g1.size)).cell (p:=⟨tb,0,none⟩) HTW.out).trans HC0.out,by rw [cell_heap e];rfl,by rw [cell_heap e];rfl,hb⟩
 have HS:=Lib.hid hS
 have hS0:Below W1.heap.size W1 W1.drew:=(Below.refl _ _).drew
 have hif:(if n = p then some (⟨ge,0,none⟩:Addr) else some ⟨ge,p * 8,none⟩) = some ⟨ge,p * 8,none⟩:=if_neg (by omega)
 have HPK:Hid (∀ w',Below W1.heap.size W1 w' → Calls Tryz.prog 37 #[.slice (if n = p then some ⟨ge,0,none⟩ else some ⟨ge,p * 8,none⟩) (f - p) (n - p)] w' fun e w''=>e = .returned (.string (strL OUT)) ∧ Below W1.heap.size W1 w''):=Lib.hid fun w' hb=>by
  rw [hif]
  exact (HPR.out w' (g1.trans (hb.mono g1.size))).mono fun e w'' h=>⟨h.1,hb.trans (h.2.mono hb.size)⟩
 have HG1:=Lib.hid g1
 clear hif hS g1 g2 g3 c0 c1 e0 e1 e2 e3 e4 e5 e6 e7 e8 e9 e10 e11 hW1
 have j1:(0:Int) ≤ (p:Int):=by omega
 have j2:(p:Int) ≤ (f:Int):=by omega
 have j3:(f:Int) ≤ (n:Int):=by omega
 go_region_held3 (fun w'=>w'.cell? ⟨tb,0,none⟩ = some (.slice (some ⟨ge,0,none⟩) n n) ∧ w'.cell? ⟨w.heap.size,10,none⟩ = some (.int .i64 p) ∧ w'.cell? ⟨w.heap.size,11,none⟩ = some (.int .i64 f) ∧ Below W1.heap.size W1 w') (first | exact HS.out _ ‹_› | go_keep) (first | (go_at_call 37;(with_reducible refine (HPK.out _ ‹_›).mono ?_);rintro e w5 ⟨rfl,hb5⟩))
 go_wp2_with fail
 go_ret2
 exact ⟨rfl,HG1.out.trans (hb5.mono HG1.out.size)⟩
end Go.Proofs.YtgjokdngbocehaaGreatDoor
namespace Go.Proofs.YtgjokdngbocehaaGreatDoor
open Go.RowKit
def Bot (s:BegS):Prop:=∀ a,[a] <:+ s.opn → a.1 = 0
theorem Bot.step {pre:List Ev} {s:BegS} {nds:List Nd} {e:Ev} (hi:NdInv pre s nds) (h:Bot s) (he:begOk s e = true):Bot (begNext s e):=by
 intro a ha
 by_cases hk:e.kind = 2
 ·have hh:=begOk_close he hk
  obtain ⟨rest,hr⟩:∃ rest,s.opn = (e.num,e.dep,e.name) :: rest:=by
   cases ho:s.opn with
   | nil=>rw [ho] at hh;cases hh
   | cons a r=>rw [ho] at hh;simp at hh;exact ⟨r,by rw [hh]⟩
  have hop:(begNext s e).opn = rest:=by unfold begNext;simp [hk,hr]
  rw [hop] at ha
  exact h a (by rw [hr];exact ha.trans (List.suffix_cons _ _))
 ·obtain ⟨hn,hk01⟩:=begOk_new he hk
  rcases hk01 with h0 | h1
  ·have hop:(begNext s e).opn = (e.num,e.dep,e.name) :: s.opn:=by unfold begNext;simp [h0]
   rw [hop] at ha
   rcases List.suffix_cons_iff.1 ha with h2 | h2
   ·simp only [List.cons.injEq] at h2
    obtain ⟨h3,h4⟩:=h2
    have hc:s.cnt = 0:=by
     unfold begOk at he
     rw [if_pos h0] at he
     simp only [Bool.and_eq_true,decide_eq_true_eq] at he
     rcases he.1.1.1 with h5 | h5
     ·exact h5
     ·exact absurd h4.symm h5
    have hnx:=hi.nxt
    have hl:nds.length = 0:=by
     cases hnd:nds with
     | nil=>rfl
     | cons x r =>
      obtain ⟨e',he',_⟩:=hi.here 0 x (by rw [hnd];rfl)
      have:=get_lt he'
      have:=hi.cnt
      omega
    rw [h3]
    simp only
    omega
   ·exact h a h2
  ·have hop:(begNext s e).opn = s.opn:=by unfold begNext;simp [h1]
   rw [hop] at ha
   exact h a ha
theorem Bot.all {pre:List Ev} {s:BegS} {nds:List Nd} (hi:NdInv pre s nds) (h:Bot s):∀ (l:List Ev) {t:BegS},begAll s l = some t → Bot t:=by
 intro l
 induction l generalizing pre s nds with
 | nil=>intro t ht;simp only [begAll,Option.some.injEq] at ht;subst ht;exact h
 | cons e l ih =>
  intro t ht
  unfold begAll at ht
  split at ht
  ·rename_i he
   exact ih (hi.step he) (h.step hi he) ht
  ·cases ht
theorem last_root {evs:List Ev} (h:wholeB evs = true):lastN evs 0 + 1 = (nodesB evs).length:=by
 have hpos:=wholeB_pos h
 obtain ⟨t,ht,hne,hop⟩:=wholeB_some h
 obtain ⟨pre,e,rfl⟩:∃ pre e,evs = pre ++ [e]:=⟨evs.dropLast,evs.getLast hne,(List.dropLast_concat_getLast hne).symm⟩
 rw [begAll_snoc] at ht
 cases hs:begAll beg0 pre with
 | none=>rw [hs] at ht;cases ht
 | some s =>
  rw [hs] at ht
  simp only [Option.bind_some] at ht
  split at ht
  ·rename_i he
   obtain rfl:=Option.some.inj ht
   have hk:e.kind = 2:=by
    by_cases hk:e.kind = 2
    ·exact hk
    ·obtain ⟨_,hk01⟩:=begOk_new he hk
     rcases hk01 with h0 | h1
     ·have:(begNext s e).opn = (e.num,e.dep,e.name) :: s.opn:=by unfold begNext;simp [h0]
      rw [this] at hop;cases hop
     ·have h2:(begNext s e).opn = s.opn:=by unfold begNext;simp [h1]
      rw [h2] at hop
      unfold begOk at he
      rw [if_neg (by omega),if_pos h1] at he
      simp [hop] at he
   have hh:=begOk_close he hk
   obtain ⟨rest,hr⟩:∃ rest,s.opn = (e.num,e.dep,e.name) :: rest:=by
    cases ho:s.opn with
    | nil=>rw [ho] at hh;cases hh
    | cons a r=>rw [ho] at hh;simp at hh;exact ⟨r,by rw [hh]⟩
   have hop2:(begNext s e).opn = rest:=by unfold begNext;simp [hk,hr]
   rw [hop2] at hop
   subst hop
   have hb:Bot s:=Bot.all NdInv.start (fun a ha=>by simp [beg0] at ha) pre hs
   have hz:=hb (e.num,e.dep,e.name) (by rw [hr];exact List.suffix_rfl)
   simp only at hz
   have hnb:nodesB (pre ++ [e]) = ndNext s (nodesB pre) e:=ndAll_snoc _ _ _ _ hs
   have hnl:(nodesB (pre ++ [e])).length = (nodesB pre).length:=by rw [hnb];unfold ndNext;rw [if_pos hk,List.length_modify]
   have h0:0 < (nodesB pre).length:=by omega
   unfold lastN
   rw [hnl]
   rw [hnb]
   unfold ndNext
   rw [if_pos hk,List.getElem?_modify,List.getElem?_eq_getElem h0,hz]
   simp
   omega
  ·cases ht
end Go.Proofs.YtgjokdngbocehaaGreatDoor
namespace Go.Proofs.YtgjokdngbocehaaGreatDoor
open Go.RowKit
theorem treeNode {w:World} {B tb:Nat} {evs:List Ev} (h:TreeAt w B tb evs) (i:Nat) (x:Nd) (hx:(nodesB evs)[i]? = some x):∃ q b cn e A m c,w.heap[tb]? = some (.cells #[q,.slice (some ⟨b,0,none⟩) (nodesB evs).length cn] 109 (0,0)) ∧ b < w.heap.size ∧ evs[x.pos]? = some e ∧ m ≤ c ∧ AttrsAt w A m e.ats ∧
  w.cell? ⟨b,i * 12,none⟩ = some (.int .i64 e.kind) ∧ w.cell? ⟨b,i * 12 + 1,none⟩ = some (.int .i64 e.num) ∧ w.cell? ⟨b,i * 12 + 2,none⟩ = some (.int .i64 e.dep) ∧ w.cell? ⟨b,i * 12 + 3,none⟩ = some (.string (strL e.name)) ∧ w.cell? ⟨b,i * 12 + 4,none⟩ = some (.slice A m c) ∧
  w.cell? ⟨b,i * 12 + 5,none⟩ = some (.string (strL e.text)) ∧ w.cell? ⟨b,i * 12 + 6,none⟩ = some (.int .i64 e.fr) ∧ w.cell? ⟨b,i * 12 + 7,none⟩ = some (.int .i64 e.tt) ∧ w.cell? ⟨b,i * 12 + 8,none⟩ = some (.int .i64 x.par):=by
 obtain ⟨h1,h2,ge,n,an,cn,h3,h4,h5,h6,h7,h8,h9⟩:=h
 obtain ⟨b,e,A,m,c,rfl,g2,g3,g4,g5,g6,g7,g8⟩:=h9 i x hx
 exact ⟨_,b,cn,e,A,m,c,h3,g3,g4,g5,g6,g8 0 (by decide),g8 1 (by decide),g8 2 (by decide),g8 3 (by decide),g8 4 (by decide),g8 5 (by decide),g8 6 (by decide),g8 7 (by decide),g8 8 (by decide)⟩
end Go.Proofs.YtgjokdngbocehaaGreatDoor
namespace Go.Proofs.YtgjokdngbocehaaGreatDoor
open Go.RowKit
theorem results_cellTmp {P:Program} {fn:Func} {p t:Tmp} {ty:TypeId} (h:fn.results = #[.cell p ty,.tmp t]) (tmps:Array Value) (w:World) :
  (results fn tmps).run P w = ((asAddr (tmps.getD p undef)).run P w).andThen fun a w₁=>((loadVar ty a).run P w₁).andThen fun v w₂=>.ok (.tuple #[v,tmps.getD t undef]) w₂:=by
 simp only [results,h]
 simp [Sem.run_bind]
set_option maxRecDepth 100000 in
set_option maxHeartbeats 4000000 in
theorem node_at (tb i:Nat) (x:Nd) (e:Ev) (evs:List Ev) (w:World) {B:Nat} (h:TreeAt w B tb evs) (hw:wholeB evs = true) (hx:(nodesB evs)[i]? = some x) (he:evs[x.pos]? = some e) (hal:e.ats.length ≤ 1048576) :
  Calls Tryz.prog 137 #[.pointer (some ⟨tb,0,none⟩),.int .i64 (i:Nat)] w fun r w'=>∃ A m c,r = .returned (.tuple #[.agg (evC e.kind e.num e.dep e.name A m c e.text e.fr e.tt),.int .i64 0]) ∧ m ≤ c ∧ AttrsAt w' A m e.ats ∧ (∀ ad,A = some ad → w.heap.size ≤ ad.block) ∧ Below w.heap.size w w':=by
 have hil:=get_lt hx
 have htl:=treeLast h hw
 have HREF:Hid (∀ W,Below w.heap.size w W → Calls Tryz.prog 46 #[.pointer (some ⟨tb,0,none⟩),.int .i64 (i:Nat),.int .i64 0] W fun e w'=>e = .returned (.int .i64 0) ∧ w' = W):=Lib.hid fun W hW=>refuses_in (htl.keep (B:=W) fun k hk=>hW.block k hk.2) (i:Nat) 0 (by omega) (by omega)
 obtain ⟨q,b,cn,e',A,m,c,htb,hb,he',hmc,hA,e0,e1,e2,e3,e4,e5,e6,e7,e8⟩:=treeNode h i x hx
 have:e' = e:=by rw [he] at he';exact (Option.some.inj he').symm
 subst this
 have c1:w.cell? ⟨tb,1,none⟩ = some (.slice (some ⟨b,0,none⟩) (nodesB evs).length cn):=by rw [cell_heap htb];rfl
 have hm:m ≤ 1048576:=by rw [hA.1];exact hal
 have HONE:Hid (∀ W,Below w.heap.size w W → Calls Tryz.prog 76 #[.agg #[.int .i64 e'.kind,.int .i64 e'.num,.int .i64 e'.dep,.string (strL e'.name),.slice A m c,.string (strL e'.text),.int .i64 e'.fr,.int .i64 e'.tt]] W fun e w'=>∃ A' c2,e = .returned (.agg (evC e'.kind e'.num e'.dep e'.name A' m c2 e'.text e'.fr e'.tt)) ∧ m ≤ c2 ∧ AttrsAt w' A' m e'.ats ∧ (∀ ad,A' = some ad → W.heap.size ≤ ad.block) ∧ Below W.heap.size W w'):=Lib.hid fun W hW=>one_any _ _ _ _ _ _ _ A m c _ W (hA.below hW) hm
 have HB:Hid (∀ o,Below w.heap.size w (w.alloc o) ∧ (w.alloc o).heap[w.heap.size]? = some o ∧ (w.alloc o).heap.size = w.heap.size + 1):=Lib.hid fun o=>⟨(Below.refl _ _).alloc (Nat.le_refl _) _,heap_alloc_new w o,by simp⟩
 have htbw:=heap_lt htb
 have k1:=fun o=>((HB.out o).1.cell (p:=⟨tb,1,none⟩) htbw).trans c1
 have k:=fun o j=>(HB.out o).1.cell (p:=⟨b,j,none⟩) hb
 have g0:=fun o=>(k o _).trans e0
 have g1:=fun o=>(k o _).trans e1
 have g2:=fun o=>(k o _).trans e2
 have g3:=fun o=>(k o _).trans e3
 have g4:=fun o=>(k o _).trans e4
 have g5:=fun o=>(k o _).trans e5
 have g6:=fun o=>(k o _).trans e6
 have g7:=fun o=>(k o _).trans e7
 have i1:(0:Int) ≤ (i:Int):=by omega
 have i2:(i:Int) < ((nodesB evs).length:Nat):=by omega
 generalize (nodesB evs).length = L at *
 clear h hw hx htb hA he he' hil e0 e1 e2 e3 e4 e5 e6 e7 e8 htl k htbw c1 hal hm
 go_enter Tryz.func137,Tryz.ntmps137
 go_wp2_with (first | (go_at_call 46;(with_reducible refine (HREF.out _ (HB.out _).1).mono ?_);rintro e w' ⟨rfl,hw'⟩;subst w'))
 (with_reducible refine (HONE.out _ (HB.out _).1).mono ?_)
 rintro r w3 ⟨A',c2,rfl,hmc2,hA',hfr,hb3⟩
 unfold evC
 have hk:=(hb3.block w.heap.size (by rw [(HB.out _).2.2];omega)).trans (HB.out _).2.1
 have hbw:=(HB.out (.cells #[.int .i64 0,.int .i64 0,.int .i64 0,.string ⟨#[]⟩,.slice none 0 0,.string ⟨#[]⟩,.int .i64 0,.int .i64 0] 47)).1.trans (hb3.mono (HB.out _).1.size)
 have z0:w3.cell? ⟨w.heap.size,0,none⟩ = some (.int .i64 0):=by rw [cell_heap hk];rfl
 have z1:w3.cell? ⟨w.heap.size,1,none⟩ = some (.int .i64 0):=by rw [cell_heap hk];rfl
 have z2:w3.cell? ⟨w.heap.size,2,none⟩ = some (.int .i64 0):=by rw [cell_heap hk];rfl
 have z3:w3.cell? ⟨w.heap.size,3,none⟩ = some (.string ⟨#[]⟩):=by rw [cell_heap hk];rfl
 have z4:w3.cell? ⟨w.heap.size,4,none⟩ = some (.slice none 0 0):=by rw [cell_heap hk];rfl
 have z5:w3.cell? ⟨w.heap.size,5,none⟩ = some (.string ⟨#[]⟩):=by rw [cell_heap hk];rfl
 have z6:w3.cell? ⟨w.heap.size,6,none⟩ = some (.int .i64 0):=by rw [cell_heap hk];rfl
 have z7:w3.cell? ⟨w.heap.size,7,none⟩ = some (.int .i64 0):=by rw [cell_heap hk];rfl
 have fz:∀ j,w3.frozen? ⟨w.heap.size,j,none⟩ = false:=fun j=>frozen_heap hk
 have hfr2:∀ ad,A' = some ad → w.heap.size + 1 ≤ ad.block:=fun ad h=>by have:=hfr ad h;rw [(HB.out _).2.2] at this;exact this
 have HX:=Lib.hid (⟨hbw,hfr2,hA',hmc2⟩:_ ∧ _ ∧ _ ∧ _)
 clear hbw hfr2 hA' hmc2 hfr hb3 hk g0 g1 g2 g3 g4 g5 g6 g7 k1
 go_wp2_with fail
 obtain ⟨hbw,hfr2,hA',hmc2⟩:=HX.out
 refine bodyPost_ret (v:=.tuple #[.agg #[.int .i64 e'.kind,.int .i64 e'.num,.int .i64 e'.dep,.string (strL e'.name),.slice A' m c2,.string (strL e'.text),.int .i64 e'.fr,.int .i64 e'.tt],.int .i64 0]) ?_ rfl ⟨A',m,c2,rfl,hmc2,?_,fun ad h=>by have:=hfr2 ad h;omega,?_⟩
 ·rw [results_cellTmp rfl]
  go_simp
 ·refine hA'.keep (by simp [World.setCell]) fun b o h _=>?_
  have hb:=hfr2 _ h
  simp only at hb
  iterate 8 rw [Below.heap_setCell _ _ _ _ (by simp only;omega)]
 ·iterate 8 refine Below.setCell ?_ (by simp only;omega) _
  exact hbw
end Go.Proofs.YtgjokdngbocehaaGreatDoor
namespace Go.Proofs.YtgjokdngbocehaaGreatDoor
def DReach (last:Nat → Nat) (slf:Bool) (j k:Nat):Prop:=(j < k ∧ k ≤ last j) ∨ (slf = true ∧ k = j)
structure CovInv (last:Nat → Nat) (slf:Bool) (fr:Nat → Bool) (i:Nat) (T:Nat → Prop) (c:Nat):Prop where
 to':∀ k,T k ↔ ∃ j,j < i ∧ fr j = true ∧ DReach last slf j k
 cov:∀ k,i ≤ k → k < c → ∃ j,j < i ∧ fr j = true ∧ k ≤ last j
theorem CovInv.start (last:Nat → Nat) (slf:Bool) (fr:Nat → Bool):CovInv last slf fr 0 (fun _=>False) 0 :=
 ⟨fun _=>⟨fun h=>h.elim,fun ⟨_,h,_⟩=>absurd h (Nat.not_lt_zero _)⟩,fun _ _ h=>absurd h (Nat.not_lt_zero _)⟩
theorem CovInv.skip {last:Nat → Nat} {slf:Bool} {fr:Nat → Bool} {i c:Nat} {T:Nat → Prop} (h:CovInv last slf fr i T c) (hf:fr i = false):CovInv last slf fr (i + 1) T c:=by
 refine ⟨fun k=>(h.to' k).trans ⟨fun ⟨j,h1,h2⟩=>⟨j,by omega,h2⟩,fun ⟨j,h1,h2,h3⟩=>?_⟩,fun k h1 h2=>?_⟩
 ·have:j ≠ i:=fun e=>by rw [e,hf] at h2;cases h2
  exact ⟨j,by omega,h2,h3⟩
 ·obtain ⟨j,a,b⟩:=h.cov k (by omega) h2
  exact ⟨j,by omega,b⟩
theorem CovInv.covered {last:Nat → Nat} {slf:Bool} {fr:Nat → Bool} {i c:Nat} {T:Nat → Prop} (lam:∀ a b,a ≤ b → b ≤ last a → last b ≤ last a)
  (h:CovInv last slf fr i T c) (hf:fr i = true) (hc:i < c):CovInv last slf fr (i + 1) (fun k=>T k ∨ (slf = true ∧ k = i)) c:=by
 refine ⟨fun k=>⟨fun hk=>?_,fun ⟨j,h1,h2,h3⟩=>?_⟩,fun k h1 h2=>?_⟩
 ·rcases hk with hk | ⟨hs,rfl⟩
  ·obtain ⟨j,a,b⟩:=(h.to' k).1 hk
   exact ⟨j,by omega,b⟩
  ·exact ⟨k,by omega,hf,.inr ⟨hs,rfl⟩⟩
 ·by_cases e:j = i
  ·subst e
   rcases h3 with ⟨h3,h4⟩ | h3
   ·obtain ⟨j0,a,b,d⟩:=h.cov j (Nat.le_refl _) hc
    have:=lam j0 j (by omega) d
    exact .inl ((h.to' k).2 ⟨j0,a,b,.inl ⟨by omega,by omega⟩⟩)
   ·exact .inr h3
  ·exact .inl ((h.to' k).2 ⟨j,by omega,h2,h3⟩)
 ·obtain ⟨j,a,b⟩:=h.cov k (by omega) h2
  exact ⟨j,by omega,b⟩
theorem CovInv.through {last:Nat → Nat} {slf:Bool} {fr:Nat → Bool} {i c c':Nat} {T:Nat → Prop}
  (h:CovInv last slf fr i T c) (hf:fr i = true) (hc:∀ k,i < k → k < c' → k < c ∨ k ≤ last i):CovInv last slf fr (i + 1) (fun k=>T k ∨ DReach last slf i k) c':=by
 refine ⟨fun k=>⟨fun hk=>?_,fun ⟨j,h1,h2,h3⟩=>?_⟩,fun k h1 h2=>?_⟩
 ·rcases hk with hk | hk
  ·obtain ⟨j,a,b⟩:=(h.to' k).1 hk
   exact ⟨j,by omega,b⟩
  ·exact ⟨i,by omega,hf,hk⟩
 ·by_cases e:j = i
  ·subst e;exact .inr h3
  ·exact .inl ((h.to' k).2 ⟨j,by omega,h2,h3⟩)
 ·rcases hc k (by omega) h2 with h3 | h3
  ·obtain ⟨j,a,b⟩:=h.cov k (by omega) h3
   exact ⟨j,by omega,b⟩
  ·exact ⟨i,by omega,hf,h3⟩
def AllInv (R:Nat → Nat → Prop) (fr:Nat → Bool) (i:Nat) (T:Nat → Prop):Prop:=∀ k,T k ↔ ∃ j,j < i ∧ fr j = true ∧ R j k
theorem AllInv.start (R:Nat → Nat → Prop) (fr:Nat → Bool):AllInv R fr 0 (fun _=>False):=fun _=>⟨fun h=>h.elim,fun ⟨_,h,_⟩=>absurd h (Nat.not_lt_zero _)⟩
theorem AllInv.skip {R:Nat → Nat → Prop} {fr:Nat → Bool} {i:Nat} {T:Nat → Prop} (h:AllInv R fr i T) (hf:fr i = false):AllInv R fr (i + 1) T:=fun k =>
 (h k).trans ⟨fun ⟨j,h1,h2⟩=>⟨j,by omega,h2⟩,fun ⟨j,h1,h2,h3⟩=>by
  have:j ≠ i:=fun e=>by rw [e,hf] at h2;cases h2
  exact ⟨j,by omega,h2,h3⟩⟩
theorem AllInv.through {R:Nat → Nat → Prop} {fr:Nat → Bool} {i:Nat} {T:Nat → Prop} (h:AllInv R fr i T) (hf:fr i = true):AllInv R fr (i + 1) (fun k=>T k ∨ R i k):=fun k=>by
 refine ⟨fun hk=>?_,fun ⟨j,h1,h2,h3⟩=>?_⟩
 ·rcases hk with hk | hk
  ·obtain ⟨j,a,b⟩:=(h k).1 hk
   exact ⟨j,by omega,b⟩
  ·exact ⟨i,by omega,hf,hk⟩
 ·by_cases e:j = i
  ·subst e;exact .inr h3
  ·exact .inl ((h k).2 ⟨j,by omega,h2,h3⟩)
end Go.Proofs.YtgjokdngbocehaaGreatDoor
namespace Go.Proofs.YtgjokdngbocehaaGreatDoor
def markL (tl:List Bool) (pre:List Int):List Bool:=pre.foldl (fun t k=>t.set (k + 1).toNat true) tl
theorem markL_len (pre:List Int):∀ tl:List Bool,(markL tl pre).length = tl.length:=by
 induction pre with
 | nil=>intro tl;rfl
 | cons x pre ih=>intro tl;show (markL (tl.set _ true) pre).length = _;rw [ih,List.length_set]
theorem markL_snoc (tl:List Bool) (pre:List Int) (y:Int):markL tl (pre ++ [y]) = (markL tl pre).set (y + 1).toNat true:=by
 unfold markL;rw [List.foldl_append];rfl
theorem markL_true (pre:List Int):∀ (tl:List Bool) (k:Nat),(∀ x ∈ pre,-1 ≤ x) → k < tl.length → ((markL tl pre)[k]? = some true ↔ tl[k]? = some true ∨ ((k:Int) - 1) ∈ pre):=by
 induction pre with
 | nil=>intro tl k _ _;simp [markL]
 | cons x pre ih =>
  intro tl k hp hk
  show (markL (tl.set (x + 1).toNat true) pre)[k]? = some true ↔ _
  rw [ih _ k (fun y hy=>hp y (List.mem_cons_of_mem _ hy)) (by rw [List.length_set];exact hk),List.getElem?_set,List.mem_cons]
  have hx:=hp x List.mem_cons_self
  by_cases e:(x + 1).toNat = k
  ·rw [if_pos e,if_pos (by omega)]
   exact ⟨fun _=>.inr (.inl (by omega)),fun _=>.inl rfl⟩
  ·rw [if_neg e]
   have:¬ ((k:Int) - 1 = x):=by omega
   simp [this]
def covL (c:Int) (pre:List Int):Int:=pre.foldl max c
theorem covL_snoc (c:Int) (pre:List Int) (y:Int):covL c (pre ++ [y]) = max (covL c pre) y:=by
 unfold covL;rw [List.foldl_append];rfl
theorem covL_or (pre:List Int):∀ c:Int,covL c pre = c ∨ covL c pre ∈ pre:=by
 induction pre with
 | nil=>intro c;exact .inl rfl
 | cons x pre ih =>
  intro c
  show covL (max c x) pre = c ∨ covL (max c x) pre ∈ x :: pre
  rcases ih (max c x) with h | h
  ·rw [h]
   by_cases hc:x ≤ c
   ·exact .inl (by omega)
   ·exact .inr (by rw [show max c x = x by omega];exact List.mem_cons_self)
  ·exact .inr (List.mem_cons_of_mem _ h)
theorem covL_le (pre:List Int):∀ c:Int,c ≤ covL c pre:=by
 induction pre with
 | nil=>intro c;exact Int.le_refl _
 | cons x pre ih=>intro c;exact Int.le_trans (by omega) (ih (max c x))
def deepA (a:Int):Bool:=decide (a = 1) || decide (a = 2)
def markS (T:PT) (a:Int) (fr:List Bool) (st:List Bool × Int) (i:Nat):List Bool × Int :=
 if fr[i]?.getD false = false then st
 else if deepA a = true ∧ (i:Int) - 1 ≤ st.2 then (if a = 2 then st.1.set i true else st.1,st.2)
 else (markL st.1 (T.along ((i:Int) - 1) a),if deepA a then covL st.2 (T.along ((i:Int) - 1) a) else st.2)
def markI (T:PT) (a:Int) (fr:List Bool) (i:Nat):List Bool × Int:=(List.range i).foldl (markS T a fr) (List.replicate fr.length false,-2)
theorem markI_zero (T:PT) (a:Int) (fr:List Bool):markI T a fr 0 = (List.replicate fr.length false,-2):=rfl
theorem markI_succ (T:PT) (a:Int) (fr:List Bool) (i:Nat):markI T a fr (i + 1) = markS T a fr (markI T a fr i) i:=by
 unfold markI;rw [List.range_succ,List.foldl_append];rfl
theorem markS_len (T:PT) (a:Int) (fr:List Bool) (st:List Bool × Int) (i:Nat):(markS T a fr st i).1.length = st.1.length:=by
 unfold markS
 split
 ·rfl
 ·split
  ·split
   ·simp
   ·rfl
  ·exact markL_len ..
theorem markI_len (T:PT) (a:Int) (fr:List Bool) (i:Nat):(markI T a fr i).1.length = fr.length:=by
 induction i with
 | zero=>simp [markI_zero]
 | succ i ih=>rw [markI_succ,markS_len,ih]
structure AxOK (T:PT) (lst:Nat → Nat):Prop where
 in':∀ n a x,x ∈ T.along n a → -1 ≤ x ∧ x < T.N
 deep:∀ j k:Nat,j ≤ T.N → ∀ a,deepA a = true → (((k:Int) - 1) ∈ T.along ((j:Int) - 1) a ↔ DReach lst (decide (a = 2)) j k)
 lam:∀ a b,a ≤ b → b ≤ lst a → lst b ≤ lst a
theorem fr_lt {fr:List Bool} {i:Nat} (h:fr[i]?.getD false = true):i < fr.length:=by
 rcases Nat.lt_or_ge i fr.length with h1 | h1
 ·exact h1
 ·rw [List.getElem?_eq_none h1] at h;cases h
theorem AllInv.congr {R:Nat → Nat → Prop} {fr:Nat → Bool} {i:Nat} {T T':Nat → Prop} (h:AllInv R fr i T) (hT:∀ k,T k ↔ T' k):AllInv R fr i T':=fun k=>(hT k).symm.trans (h k)
theorem CovInv.congr {last:Nat → Nat} {slf:Bool} {fr:Nat → Bool} {i c:Nat} {T T':Nat → Prop} (h:CovInv last slf fr i T c) (hT:∀ k,T k ↔ T' k):CovInv last slf fr i T' c:=⟨fun k=>(hT k).symm.trans (h.to' k),h.cov⟩
theorem mark_get {T:PT} {lst:Nat → Nat} (hA:AxOK T lst) {fr:List Bool} (hfr:fr.length = T.N + 1) (a:Int) (i:Nat) {tl:List Bool} (hl:tl.length = fr.length) (k:Nat) :
  (markL tl (T.along ((i:Int) - 1) a))[k]? = some true ↔ tl[k]? = some true ∨ ((k:Int) - 1) ∈ T.along ((i:Int) - 1) a:=by
 rcases Nat.lt_or_ge k tl.length with h | h
 ·exact markL_true _ _ _ (fun x hx=>(hA.in' _ _ x hx).1) h
 ·rw [List.getElem?_eq_none (by rw [markL_len];exact h),List.getElem?_eq_none h]
  refine ⟨fun h=>(by cases h),fun h2=>?_⟩
  rcases h2 with h2 | h2
  ·cases h2
  ·have:=(hA.in' _ _ _ h2).2;omega
theorem markI_deep {T:PT} {lst:Nat → Nat} (hA:AxOK T lst) {fr:List Bool} (hfr:fr.length = T.N + 1) (a:Int) (hd:deepA a = true):∀ i,i ≤ fr.length →
  -2 ≤ (markI T a fr i).2 ∧ CovInv lst (decide (a = 2)) (fun j=>fr[j]?.getD false) i (fun k=>(markI T a fr i).1[k]? = some true) ((markI T a fr i).2 + 2).toNat:=by
 intro i
 induction i with
 | zero =>
  intro _
  refine ⟨by rw [markI_zero];exact Int.le_refl _,?_⟩
  rw [markI_zero]
  refine (CovInv.start _ _ _).congr fun k=>⟨fun h=>h.elim,fun h=>?_⟩
  rw [List.getElem?_replicate] at h
  split at h <;> cases h
 | succ i ih =>
  intro hi
  obtain ⟨h1,h2⟩:=ih (by omega)
  have hl:=markI_len T a fr i
  rw [markI_succ]
  generalize markI T a fr i = st at *
  unfold markS
  by_cases hf:fr[i]?.getD false = false
  ·rw [if_pos hf]
   exact ⟨h1,h2.skip hf⟩
  ·have hf':fr[i]?.getD false = true:=by simpa using hf
   rw [if_neg hf]
   by_cases hc:(i:Int) - 1 ≤ st.2
   ·rw [if_pos ⟨hd,hc⟩]
    refine ⟨h1,(h2.covered hA.lam hf' (by omega)).congr fun k=>?_⟩
    by_cases h2':a = 2
    ·simp only [h2',if_true,decide_true,true_and]
     rw [List.getElem?_set]
     by_cases e:i = k
     ·subst e;rw [if_pos rfl,if_pos (by omega)];simp
     ·rw [if_neg e]
      exact ⟨fun h=>h.elim id fun h=>absurd h.symm e,.inl⟩
    ·simp [h2']
   ·rw [if_neg (fun h=>hc h.2)]
    simp only [hd,if_true]
    have hal:=hA.deep i
    have hor:=covL_or (T.along ((i:Int) - 1) a) st.2
    have hle:=covL_le (T.along ((i:Int) - 1) a) st.2
    refine ⟨by omega,(h2.through (c':=(covL st.2 (T.along ((i:Int) - 1) a) + 2).toNat) hf' fun k hk1 hk2=>?_).congr fun k=>?_⟩
    ·rcases hor with h | h
     ·left;omega
     ·right
      have hin:=hA.in' _ _ _ h
      obtain ⟨q,hq⟩:∃ q:Nat,(q:Int) - 1 = covL st.2 (T.along ((i:Int) - 1) a):=⟨(covL st.2 (T.along ((i:Int) - 1) a) + 1).toNat,by omega⟩
      rw [← hq] at h hk2
      rcases (hal q (by omega) a hd).1 h with h3 | h3
      ·omega
      ·omega
    ·rw [mark_get hA hfr a i hl k,hal k (by omega) a hd]
theorem markI_else {T:PT} {lst:Nat → Nat} (hA:AxOK T lst) {fr:List Bool} (hfr:fr.length = T.N + 1) (a:Int) (hd:deepA a = false):∀ i,i ≤ fr.length →
  AllInv (fun j k=>((k:Int) - 1) ∈ T.along ((j:Int) - 1) a) (fun j=>fr[j]?.getD false) i (fun k=>(markI T a fr i).1[k]? = some true):=by
 intro i
 induction i with
 | zero =>
  intro _
  rw [markI_zero]
  refine (AllInv.start _ _).congr fun k=>⟨fun h=>h.elim,fun h=>?_⟩
  rw [List.getElem?_replicate] at h
  split at h <;> cases h
 | succ i ih =>
  intro hi
  have h2:=ih (by omega)
  have hl:=markI_len T a fr i
  rw [markI_succ]
  generalize markI T a fr i = st at *
  unfold markS
  by_cases hf:fr[i]?.getD false = false
  ·rw [if_pos hf]
   exact h2.skip hf
  ·have hf':fr[i]?.getD false = true:=by simpa using hf
   rw [if_neg hf,if_neg (fun h=>by rw [hd] at h;cases h.1)]
   exact (h2.through hf').congr fun k=>(mark_get hA hfr a i hl k).symm
theorem reachP_iff (T:PT) (fr:List Bool) (a:Int) (k:Nat):reachP T fr a k = true ↔ ∃ j,j < fr.length ∧ fr[j]?.getD false = true ∧ ((k:Int) - 1) ∈ T.along ((j:Int) - 1) a:=by
 simp only [reachP,List.any_eq_true,List.mem_range,Bool.and_eq_true,List.contains_iff_mem]
theorem bools_ext {l m:List Bool} (hl:l.length = m.length) (h:∀ k,k < l.length → (l[k]? = some true ↔ m[k]? = some true)):l = m:=by
 refine List.ext_getElem hl fun k h1 h2=>?_
 have:=h k h1
 rw [List.getElem?_eq_getElem h1,List.getElem?_eq_getElem h2] at this
 cases hx:l[k] <;> cases hy:m[k] <;> simp_all
theorem markI_reach {T:PT} {lst:Nat → Nat} (hA:AxOK T lst) {fr:List Bool} (hfr:fr.length = T.N + 1) (a:Int):(markI T a fr fr.length).1 = (List.range fr.length).map (reachP T fr a):=by
 refine bools_ext (by rw [markI_len];simp) fun k hk=>?_
 rw [markI_len] at hk
 have hm:((List.range fr.length).map (reachP T fr a))[k]? = some (reachP T fr a k):=by rw [List.getElem?_map,List.getElem?_range hk];rfl
 rw [hm,Option.some.injEq,reachP_iff]
 cases hd:deepA a with
 | true =>
  refine ((markI_deep hA hfr a hd fr.length (Nat.le_refl _)).2.to' k).trans ⟨fun ⟨j,h1,h2,h3⟩=>⟨j,h1,h2,(hA.deep j k (by omega) a hd).2 h3⟩,fun ⟨j,h1,h2,h3⟩=>⟨j,h1,h2,(hA.deep j k (by omega) a hd).1 h3⟩⟩
 | false=>exact markI_else hA hfr a hd fr.length (Nat.le_refl _) k
end Go.Proofs.YtgjokdngbocehaaGreatDoor
namespace Go.Proofs.YtgjokdngbocehaaGreatDoor
open Go.RowKit
def nodeEv (evs:List Ev) (n:Nat):Ev:=(((nodesB evs)[n]?).bind fun x=>evs[x.pos]?).getD ⟨0,0,0,[],[],[],0,0⟩
def treePT (evs:List Ev):PT:=⟨(nodesB evs).length,alongM (nodesB evs).length (lastN evs),nodeEv evs,fun v=>txtR evs v.toNat (hiOf (nodesB evs).length (lastN evs) v)⟩
structure TQ (w:World) (tb:Nat) (evs:List Ev):Prop where
 at':∃ B,TreeAt w B tb evs
 whole:wholeB evs = true
 sm:∀ e ∈ evs,EvSm e
 len:(nodesB evs).length ≤ 1024
 texts:∀ v i,v = ((i:Nat):Int) ∨ v = -1 ∧ i = 0 → v < (nodesB evs).length → (txtR evs i (hiOf (nodesB evs).length (lastN evs) v)).length ≤ 1048576
theorem TQ.below {w w':World} {tb:Nat} {evs:List Ev} (h:TQ w tb evs) (hb:Below w.heap.size w w'):TQ w' tb evs:=by
 obtain ⟨⟨B,h1⟩,h2,h3,h4,h5⟩:=h
 exact ⟨⟨B,h1.below hb⟩,h2,h3,h4,h5⟩
theorem TQ.node {w:World} {tb:Nat} {evs:List Ev} (h:TQ w tb evs) (i:Nat) (hi:i < (nodesB evs).length):∃ x,(nodesB evs)[i]? = some x ∧ evs[x.pos]? = some (nodeEv evs i) ∧ EvSm (nodeEv evs i) ∧ ((nodeEv evs i).kind = 0 ∨ (nodeEv evs i).kind = 1):=by
 obtain ⟨⟨B,h1⟩,h2,h3,_⟩:=h
 obtain ⟨t,ht,_,_⟩:=wholeB_some h2
 have hx:(nodesB evs)[i]? = some (nodesB evs)[i]:=List.getElem?_eq_getElem hi
 have hinv:=NdInv.start.all evs ht
 rw [List.nil_append] at hinv
 obtain ⟨e,he,hk,_⟩:=hinv.here i _ hx
 have hne:nodeEv evs i = e:=by unfold nodeEv;rw [hx];simp [he]
 refine ⟨_,hx,by rw [hne];exact he,by rw [hne];exact h3 _ (List.mem_of_getElem? he),?_⟩
 rw [hne]
 obtain ⟨hp,hpe⟩:=List.getElem?_eq_some_iff.1 he
 obtain ⟨s,hs⟩:=begAll_take ht (nodesB evs)[i].pos
 have hok:=(begAll_at ht _ hp hs).1
 rw [hpe] at hok
 exact (begOk_new hok hk).2
theorem nodeQ_any {tb:Nat} {evs:List Ev} (i:Nat) (w:World) (h:TQ w tb evs) (hi:i < (nodesB evs).length) :
  Calls Tryz.prog 137 #[.pointer (some ⟨tb,0,none⟩),.int .i64 (i:Nat)] w fun r w'=>∃ A m c,r = .returned (.tuple #[.agg (evC (nodeEv evs i).kind (nodeEv evs i).num (nodeEv evs i).dep (nodeEv evs i).name A m c (nodeEv evs i).text (nodeEv evs i).fr (nodeEv evs i).tt),.int .i64 0]) ∧ m ≤ c ∧ AttrsAt w' A m (nodeEv evs i).ats ∧ Below w.heap.size w w':=by
 obtain ⟨x,hx,he,hsm,_⟩:=h.node i hi
 obtain ⟨⟨B,h1⟩,h2,h3,_⟩:=h
 exact (node_at tb i x _ evs w h1 h2 hx he hsm.2.2.1).mono fun r w' ⟨A,m,c,q1,q2,q3,_,q5⟩=>⟨A,m,c,q1,q2,q3,q5⟩
theorem valueQ_any {tb:Nat} {evs:List Ev} (v:Int) (w:World) (h:TQ w tb evs) (hv1:-1 ≤ v) (hv:v < (nodesB evs).length) :
  Calls Tryz.prog 156 #[.pointer (some ⟨tb,0,none⟩),.int .i64 v] w fun e w'=>e = .returned (.tuple #[.string (strL ((treePT evs).value v)),.int .i64 0]) ∧ Below w.heap.size w w':=by
 obtain ⟨⟨B,h1⟩,h2,h3,h4,_⟩:=h
 exact value_at tb v.toNat v evs w h1 h2 (by omega) hv (fun e he=>(h3 e he).2.1) (by omega)
theorem strL_cmp (a b:List UInt8):((strL a).toList == (strL b).toList) = decide (a = b):=by
 by_cases h:a = b
 ·rw [decide_eq_true h];exact cmpU_eq h
 ·rw [decide_eq_false h];exact cmpU_ne h
set_option maxRecDepth 100000 in
set_option maxHeartbeats 4000000 in
theorem test_any {tb:Nat} {evs:List Ev} (n:Int) (s:PS) (wa:Option Addr) (wc:Nat) (w:World) (h:TQ w tb evs) (hn:n < (nodesB evs).length) :
  Calls Tryz.prog 108 #[.agg #[.pointer (some ⟨tb,0,none⟩)],.int .i64 n,.agg (stepC s wa wc).toArray] w fun e w'=>e = .returned (.bool (meetsP (treePT evs) n s)) ∧ Below w.heap.size w w':=by
 obtain ⟨R,hR⟩:∃ R,meetsP (treePT evs) n s = R:=⟨_,rfl⟩
 rw [hR]
 have HR:Hid ((if s.test = 3 then true else if n < 0 then false
  else if s.test = 0 then decide ((nodeEv evs n.toNat).kind = 0) && decide ((nodeEv evs n.toNat).name = s.name)
  else if s.test = 1 then decide ((nodeEv evs n.toNat).kind = 0) else decide ((nodeEv evs n.toNat).kind = 1)) = R):=Lib.hid hR
 clear hR
 have hb0:=((Below.refl w.heap.size w).alloc (Nat.le_refl _) (.cells #[.pointer (some ⟨tb,0,none⟩)] 153)).alloc (by simp) (.cells (stepC s wa wc).toArray 76)
 have HB0:=Lib.hid hb0
 have HQ:=Lib.hid h
 unfold stepC at *
 generalize s.axis = ax at *
 generalize s.wher.length = wl at *
 by_cases h3:s.test = 3
 ·rw [if_pos h3] at HR
  generalize strL s.name = nm at *
  generalize s.test = te at *
  subst h3
  clear h hn hb0
  go_enter Tryz.func108,Tryz.ntmps108
  go_wp2_with fail
  go_ret
  exact ⟨ret_bool HR.out,HB0.out⟩
 rw [if_neg h3] at HR
 have t3:((s.test:Int) == 3) = false:=by simpa using h3
 by_cases hneg:n < 0
 ·rw [if_pos hneg] at HR
  generalize strL s.name = nm at *
  generalize s.test = te at *
  clear h3 h hn hb0
  go_enter Tryz.func108,Tryz.ntmps108
  go_wp2_with fail
  go_ret
  exact ⟨ret_bool HR.out,HB0.out⟩
 rw [if_neg hneg] at HR
 obtain ⟨i,rfl⟩:∃ i:Nat,n = (i:Int):=⟨n.toNat,by omega⟩
 rw [Int.toNat_natCast] at HR
 have hil:i < (nodesB evs).length:=by omega
 obtain ⟨_,_,_,_,hkd⟩:=h.node i hil
 have hcmp:=strL_cmp (nodeEv evs i).name s.name
 have hsz:((w.alloc (.cells #[.pointer (some ⟨tb,0,none⟩)] 153)).alloc (.cells #[.int .i64 ax,.int .i64 s.test,.string (strL s.name),.slice wa wl wc] 76)).heap.size = w.heap.size + 2:=by simp
 have HND:Hid (Calls Tryz.prog 137 #[.pointer (some ⟨tb,0,none⟩),.int .i64 (i:Nat)] ((w.alloc (.cells #[.pointer (some ⟨tb,0,none⟩)] 153)).alloc (.cells #[.int .i64 ax,.int .i64 s.test,.string (strL s.name),.slice wa wl wc] 76)) fun r w'=>∃ A m c,r = .returned (.tuple #[.agg (evC (nodeEv evs i).kind (nodeEv evs i).num (nodeEv evs i).dep (nodeEv evs i).name A m c (nodeEv evs i).text (nodeEv evs i).fr (nodeEv evs i).tt),.int .i64 0]) ∧ Below w.heap.size w w' ∧ w'.cell? ⟨w.heap.size + 1,1,none⟩ = some (.int .i64 s.test) ∧ w'.cell? ⟨w.heap.size + 1,2,none⟩ = some (.string (strL s.name)) ∧ w.heap.size + 2 ≤ w'.heap.size):=Lib.hid (by
  refine (nodeQ_any i _ (h.below hb0) hil).mono ?_
  rintro r w' ⟨A,m,c,q1,_,_,q4⟩
  have k:=fun j=>q4.cell (p:=⟨w.heap.size + 1,j,none⟩) (by rw [hsz];exact Nat.lt_succ_self _)
  have kn:=heap_alloc_new (w.alloc (.cells #[.pointer (some ⟨tb,0,none⟩)] 153)) (.cells #[.int .i64 ax,.int .i64 s.test,.string (strL s.name),.slice wa wl wc] 76)
  rw [World.size_alloc] at kn
  refine ⟨A,m,c,q1,hb0.trans (q4.mono (by rw [hsz];omega)),(k 1).trans ?_,(k 2).trans ?_,by have:=q4.size;omega⟩
  ·rw [cell_heap kn];rfl
  ·rw [cell_heap kn];rfl)
 unfold evC at HND
 clear h hn hb0 hil hneg
 generalize nodeEv evs i = ev at *
 obtain ⟨kd,num,dep,name,ats,text,fr,tt⟩:=ev
 simp only at *
 generalize decide (name = s.name) = NE at *
 generalize strL name = nv at *
 generalize strL s.name = nm at *
 generalize strL text = tv at *
 generalize s.test = te at *
 go_enter Tryz.func108,Tryz.ntmps108
 go_wp2_with fail
 (with_reducible refine HND.out.mono ?_)
 rintro r w2 ⟨A,m,c,rfl,hb2,c1,c2,hs2⟩
 have HB2:=Lib.hid (hb2.alloc hb2.size (.cells #[.int .i64 kd,.int .i64 num,.int .i64 dep,.string nv,.slice A m c,.string tv,.int .i64 fr,.int .i64 tt] 47))
 have b1:=fun o=>(Lib.hid ((Below.refl w2.heap.size w2).alloc (Nat.le_refl _) o)).out.cell (p:=⟨w.heap.size + 1,1,none⟩) (show w.heap.size + 1 < w2.heap.size by omega)
 have b2:=fun o=>(Lib.hid ((Below.refl w2.heap.size w2).alloc (Nat.le_refl _) o)).out.cell (p:=⟨w.heap.size + 1,2,none⟩) (show w.heap.size + 1 < w2.heap.size by omega)
 rw [c1] at b1
 rw [c2] at b2
 clear hb2 HND
 by_cases h0:te = 0
 ·subst h0
  rw [if_pos rfl] at HR
  rcases hkd with rfl | rfl
  ·go_wp2_with fail
   go_ret
   exact ⟨ret_bool (by rw [← HR.out];simp),HB2.out⟩
  ·go_wp2_with fail
   go_ret
   exact ⟨ret_bool (by rw [← HR.out];simp),HB2.out⟩
 ·rw [if_neg h0] at HR
  have t0:((te:Int) == 0) = false:=by simpa using h0
  by_cases h1:te = 1
  ·subst h1
   rw [if_pos rfl] at HR
   rcases hkd with rfl | rfl
   ·go_wp2_with fail
    go_ret
    exact ⟨ret_bool (by rw [← HR.out];simp),HB2.out⟩
   ·go_wp2_with fail
    go_ret
    exact ⟨ret_bool (by rw [← HR.out];simp),HB2.out⟩
  ·rw [if_neg h1] at HR
   have t1:((te:Int) == 1) = false:=by simpa using h1
   rcases hkd with rfl | rfl
   ·go_wp2_with fail
    go_ret
    exact ⟨ret_bool (by rw [← HR.out];simp),HB2.out⟩
   ·go_wp2_with fail
    go_ret
    exact ⟨ret_bool (by rw [← HR.out];simp),HB2.out⟩
end Go.Proofs.YtgjokdngbocehaaGreatDoor
