/-
  The plain law of the nodes of a document's events: where each begins and ends.
-/
import Derived.RangeFuncNested
import Derived.RangeFuncBox
import Derived.RangeFuncLeaves
import Derived.Test.YtgjokdngbocehaaGreatDoorHsA
import Derived.Test.YtgjokdngbocehaaGreatDoorHsD
import Derived.Test.YtgjokdngbocehaaGreatDoorHsE
namespace Go.Proofs.YtgjokdngbocehaaGreatDoor
open Go.RowKit
theorem ndAll_snoc (s:BegS) (nds:List Nd) (l:List Ev) (e:Ev) {t:BegS} (h:begAll s l = some t):ndAll s nds (l ++ [e]) = ndNext t (ndAll s nds l) e:=by
 induction l generalizing s nds with
 | nil=>simp only [begAll,Option.some.injEq] at h;subst h;rfl
 | cons x l ih =>
  unfold begAll at h
  split at h
  ·exact ih _ _ h
  ·cases h
theorem begAll_at {s t:BegS} {l:List Ev} (h:begAll s l = some t) (i:Nat) (hi:i < l.length) {u:BegS} (hu:begAll s (l.take i) = some u):begOk u l[i] = true ∧ begAll s (l.take (i + 1)) = some (begNext u l[i]):=by
 have h2:=h
 rw [← List.take_append_drop i l,begAll_app,hu,List.drop_eq_getElem_cons hi] at h2
 simp only [Option.bind_some,begAll] at h2
 split at h2
 ·rename_i hok
  refine ⟨hok,?_⟩
  rw [List.take_succ_eq_append_getElem hi,begAll_snoc,hu]
  simp [hok]
 ·cases h2
end Go.Proofs.YtgjokdngbocehaaGreatDoor
namespace Go.Proofs.YtgjokdngbocehaaGreatDoor
open Go.RowKit
def ndTxt (evs:List Ev) (i:Nat):List UInt8:=(((nodesB evs)[i]?.bind fun x=>evs[x.pos]?).map (·.text)).getD []
theorem wholeB_pos {l:List Ev} (h:wholeB l = true):0 < (nodesB l).length:=by
 obtain ⟨t,ht,hne,_⟩:=wholeB_some h
 have hinv:=nodesB_inv ht
 obtain ⟨e,l',rfl⟩:=List.exists_cons_of_ne_nil hne
 have h0:begOk beg0 e = true:=by
  unfold begAll at ht
  split at ht
  ·assumption
  ·cases ht
 have hk:e.kind ≠ 2:=by
  intro hk
  have:=begOk_close h0 hk
  simp [beg0] at this
 obtain ⟨_,x,hx,_⟩:=hinv.beg 0 e rfl hk
 have:=get_lt hx
 omega
end Go.Proofs.YtgjokdngbocehaaGreatDoor
namespace Go.Proofs.YtgjokdngbocehaaGreatDoor
open Go.RowKit
def parN (evs:List Ev) (i:Nat):Int:=((nodesB evs)[i]?.map (·.par)).getD (-1)
theorem axF_of {evs:List Ev} (h:wholeB evs = true):AxF (nodesB evs).length (lastN evs) (parN evs):=by
 obtain ⟨t,ht,_,ho⟩:=wholeB_some h
 have hx:=nodesB_ax ht
 have hr:=lastN_rng ht
 have hno:∀ i,¬ isOpn t i:=by rintro i ⟨o,ho',_⟩;rw [ho] at ho';cases ho'
 have hat:∀ i,i < (nodesB evs).length → ∃ x,(nodesB evs)[i]? = some x ∧ ((lastN evs i:Nat):Int) = x.last ∧ parN evs i = x.par:=by
  intro i hi
  exact ⟨_,List.getElem?_eq_getElem hi,lastN_at ht (List.getElem?_eq_getElem hi),by unfold parN;rw [List.getElem?_eq_getElem hi];rfl⟩
 refine ⟨hr,?_,?_,?_,?_,?_⟩
 ·intro h0
  obtain ⟨x,hx0,_,hp⟩:=hat 0 h0
  rw [hp];exact hx.root x hx0
 ·intro k hk
  obtain ⟨x,hx0,_,hp⟩:=hat k hk
  rw [hp];exact hx.plt k x hx0
 ·intro i hi h1
  obtain ⟨x,hx0,hl,_⟩:=hat i hi
  obtain ⟨y,hy0,_,hp⟩:=hat (i + 1) (by have:=hr i hi;omega)
  rw [hp]
  exact hx.first i x y hx0 hy0 (.inr (by omega))
 ·intro k hk h1
  obtain ⟨x,hx0,hl,hp⟩:=hat k hk
  have hpk:=hx.plt k x hx0
  unfold hiP at h1
  have h2:lastN evs k + 1 < (nodesB evs).length:=by
   split at h1
   ·exact h1
   ·have:=hr (parN evs k).toNat (by omega);omega
  obtain ⟨y,hy0,_,hpy⟩:=hat _ h2
  rw [hpy,hp]
  refine hx.sib k x y hx0 (hno _) (by rw [← hl,show ((lastN evs k:Nat):Int) + 1 = ((lastN evs k + 1:Nat):Int) by omega,Int.toNat_natCast];exact hy0) ?_
  by_cases hneg:x.par = -1
  ·exact .inl hneg
  ·obtain ⟨p,hp0,hpl,_⟩:=hat x.par.toNat (by omega)
   rw [hp,if_neg (by omega)] at h1
   exact .inr (.inr ⟨p,hp0,by omega⟩)
 ·intro k hk
  obtain ⟨x,hx0,hl,hp⟩:=hat k hk
  unfold hiP
  split
  ·exact (hr k hk).2
  ·rename_i h1
   obtain ⟨p,hp0,hc⟩:=hx.ins k x hx0 (hno _) (by omega)
   have hplt:=hx.plt k x hx0
   obtain ⟨p',hp0',hpl,_⟩:=hat x.par.toNat (by omega)
   rw [hp0] at hp0'
   obtain rfl:=Option.some.inj hp0'
   rcases hc with hc | hc
   ·exact absurd hc (hno _)
   ·rw [hp];omega
end Go.Proofs.YtgjokdngbocehaaGreatDoor
namespace Go.Proofs.YtgjokdngbocehaaGreatDoor
open Go.RowKit
theorem wpList_app_row {P:Program} (w:World) {ops:Array Oper} {rest:List Oper} {o:Oper} {a:Act} {Q:Exit → Act → World → Prop} (hgd:o.guard = none) (s x:Operand) (t:TypeId)
  (ho:o.op = .call { callee:=.builtin .append,args:=#[s,x],argTypes:=#[t,t] })
  (base:Nat) (e:TypeId) (i:TypeInfo) (z:Value) (size bytes:Nat) (ht:P.underlying t = some (.slice e)) (hi:P.info? e = some i) (hz:i.zero = some z)
  (hsize:i.size = size) (hby:i.bytes = bytes) (hzs:z.cells.size = size) (hsz:0 < size)
  (v:Value) (n:Nat) (xs:List Value) (hs:a.eval s = v) (hown:w.ownsRow base e size v n xs)
  (A:Option Addr) (m c:Nat) (news:List Value) (hx:a.eval x = .slice A m c) (hl:news.length = m * size) (hc:∀ ad,A = some ad → ∀ j u,news[j]? = some u → w.cell? (ad.add j) = some u) (hA:A = none → m = 0) (h1:∀ u ∈ news,u.oneCell' = true)
  (hn:n + m ≤ 4294967296) (hbb:bytes ≤ 16384) (hbase:base ≤ w.heap.size)
  (h:∀ v' w',w'.ownsRow base e size v' (n + m) (xs ++ news) → App w w' v v' → wpList P ops Q rest (a.put o.dst v') w') :
  wpList P ops Q (o :: rest) a w:=by
 have hb:(n + m) * bytes ≤ 140737488355328:=Nat.le_trans (Nat.mul_le_mul hn hbb) (by decide)
 rcases A with _ | ad
 ·have hm:=hA rfl
  subst hm
  have hnews:news = []:=List.eq_nil_of_length_eq_zero (by omega)
  subst hnews
  obtain ⟨av,cv,rfl,hle,_,_⟩:=own_slice hown
  refine wpList_plain hgd fun K hK'=>?_
  have hrun:=run_append_nothing (P:=P) w t t o.type e i ht hi av n cv hle _ (Src.ofNil (P:=P) (size:=i.size) w ht c)
  unfold Oper.wp
  simp [execOp,ho,resolve,invoke,builtin,hs,hx,hrun,Result.andThen]
  exact hK' _ _ (h _ _ (by simpa using hown) ⟨⟨rfl,rfl,rfl,Nat.le_refl _,fun _ _ _=>rfl⟩,.inl rfl⟩)
 ·refine wpList_append_own_at (P:=P) w hgd s x t ho base e i z size bytes ht hi hz hsize hby hzs hsz v n xs hs hown ad m c news hx hl (hc ad rfl) h1 (by unfold maxLen;omega) hb hbase fun v' w' h2 h3 _ h5=>h v' w' h2 ⟨h3,?_⟩
  rcases h5 with h5 | h5
  ·exact .inl h5
  ·exact .inr ⟨_,h5,Nat.le_refl _⟩
end Go.Proofs.YtgjokdngbocehaaGreatDoor
namespace Go.Proofs.YtgjokdngbocehaaGreatDoor
open Go.RowKit
theorem infoAttr:(Tryz.prog.info? 158).map (fun i=>(i.zero,i.size,i.bytes)) = some (some (.agg #[.string ⟨#[]⟩,.string ⟨#[]⟩]),2,32):=by kernel_rfl
def atC (ats:List (List UInt8 × List UInt8)):List Value:=ats.flatMap fun p=>[.string (strL p.1),.string (strL p.2)]
theorem atC_length (ats:List (List UInt8 × List UInt8)):(atC ats).length = ats.length * 2:=by
 induction ats with
 | nil=>rfl
 | cons p r ih=>unfold atC at *;simp only [List.flatMap_cons,List.length_append,List.length_cons,List.length_nil,ih];omega
theorem atC_get:∀ (ats:List (List UInt8 × List UInt8)) (i:Nat) (h:i < ats.length),(atC ats)[i * 2]? = some (.string (strL ats[i].1)) ∧ (atC ats)[i * 2 + 1]? = some (.string (strL ats[i].2))
 | p :: r,0,_=>⟨rfl,rfl⟩
 | p :: r,i + 1,h=>by
  have:=atC_get r i (by simpa using h)
  have e:atC (p :: r) = .string (strL p.1) :: .string (strL p.2) :: atC r:=rfl
  rw [e,show (i + 1) * 2 = i * 2 + 1 + 1 by omega]
  simpa using this
theorem atC_one (ats:List (List UInt8 × List UInt8)):∀ u ∈ atC ats,u.oneCell' = true:=by
 intro u hu
 obtain ⟨p,_,h⟩:=List.mem_flatMap.1 hu
 simp only [List.mem_cons,List.not_mem_nil,or_false] at h
 rcases h with rfl | rfl <;> rfl
theorem AttrsAt.cells {w:World} {A:Option Addr} {m:Nat} {ats:List (List UInt8 × List UInt8)} (h:AttrsAt w A m ats):∀ ad,A = some ad → ∀ j u,(atC ats)[j]? = some u → w.cell? (ad.add j) = some u:=by
 intro ad hA j u hj
 have hlt:=(List.getElem?_eq_some_iff.1 hj).1
 rw [atC_length] at hlt
 obtain ⟨i,hij⟩:∃ i,j = i * 2 ∨ j = i * 2 + 1:=⟨j / 2,by omega⟩
 have hi:i < ats.length:=by omega
 obtain ⟨b,o,e,_,h1,h2⟩:=h.2 _ hi
 rw [hA] at e
 injection e with e
 subst e
 obtain ⟨g1,g2⟩:=atC_get ats _ hi
 rw [add_cell]
 rcases hij with rfl | rfl
 ·rw [h1,← g1,hj]
 ·rw [← Nat.add_assoc,h2,← g2,hj]
theorem AttrsAt.keep {w w':World} {A:Option Addr} {m:Nat} {ats:List (List UInt8 × List UInt8)} (h:AttrsAt w A m ats) (hs:w.heap.size ≤ w'.heap.size) (hk:∀ b o,A = some ⟨b,o,none⟩ → b < w.heap.size → w'.heap[b]? = w.heap[b]?):AttrsAt w' A m ats :=
 ⟨h.1,fun i hi=>by
  obtain ⟨b,o,e,hlt,h1,h2⟩:=h.2 i hi
  have hb:=hk b o e hlt
  exact ⟨b,o,e,Nat.lt_of_lt_of_le hlt hs,by rw [← h1];simp only [World.cell?,hb],by rw [← h2];simp only [World.cell?,hb]⟩⟩
theorem AttrsAt.none {w:World} {A:Option Addr} {m:Nat} {ats:List (List UInt8 × List UInt8)} (h:AttrsAt w A m ats) (hA:A = none):m = 0:=by
 rw [h.1]
 cases ats with
 | nil=>rfl
 | cons p r=>obtain ⟨b,o,e,_⟩:=h.2 0 (by simp);rw [hA] at e;cases e
theorem own_attrs {w:World} {base m:Nat} {e:TypeId} {v:Value} {ats:List (List UInt8 × List UInt8)} (h:w.ownsRow base e 2 v m (atC ats)) :
  ∃ a c,v = .slice a m c ∧ m ≤ c ∧ AttrsAt w a m ats ∧ ∀ ad,a = some ad → base ≤ ad.block:=by
 have hm:m = ats.length:=by have:=h.1;rw [atC_length] at this;omega
 obtain ⟨a,c,rfl,h1,h2,h3⟩:=own_slice h
 refine ⟨a,c,rfl,h1,⟨hm,fun i hi=>?_⟩,fun ad ha=>?_⟩
 ·cases a with
  | none=>have:=h2 rfl;omega
  | some ad =>
   obtain ⟨g,rfl,hg,hl,_,hc⟩:=h3 _ rfl
   obtain ⟨g1,g2⟩:=atC_get ats i hi
   exact ⟨g,0,rfl,hl,by rw [Nat.zero_add];exact hc _ _ g1,by rw [Nat.zero_add];exact hc _ _ g2⟩
 ·obtain ⟨g,rfl,hg,_⟩:=h3 _ ha
  exact hg
theorem results_cell1 {P:Program} {fn:Func} {p:Tmp} {ty:TypeId} (h:fn.results = #[.cell p ty]) (tmps:Array Value) (w:World) :
  (results fn tmps).run P w = ((asAddr (tmps.getD p undef)).run P w).andThen fun a w₁=>(loadVar ty a).run P w₁:=by
 simp only [results,h]
 simp [Sem.run_bind,Result.andThen]
end Go.Proofs.YtgjokdngbocehaaGreatDoor
namespace Go.Proofs.YtgjokdngbocehaaGreatDoor
open Go.RowKit
set_option maxRecDepth 1000000 in
set_option maxHeartbeats 4000000 in
theorem one_any (ek en ed efr ett:Int) (ename etext:List UInt8) (A:Option Addr) (m c:Nat) (ats:List (List UInt8 × List UInt8)) (w:World) (hA:AttrsAt w A m ats) (hm:m ≤ 1048576) :
  Calls Tryz.prog 76 #[.agg (evC ek en ed ename A m c etext efr ett)] w fun e w'=>∃ A' c',e = .returned (.agg (evC ek en ed ename A' m c' etext efr ett)) ∧ m ≤ c' ∧ AttrsAt w' A' m ats ∧ (∀ ad,A' = some ad → w.heap.size ≤ ad.block) ∧ Below w.heap.size w w':=by
 obtain ⟨i0,hi,hz0,hz1,hz2⟩:=info_parts infoAttr
 have HA:=Lib.hid hA
 clear hA
 unfold evC
 generalize strL ename = N
 generalize strL etext = X
 have HB:Hid (∀ o o',Below w.heap.size w ((w.alloc o).alloc o')):=Lib.hid fun o o'=>((Below.refl w.heap.size w).alloc (Nat.le_refl _) o).alloc (by simp) o'
 have K1:∀ o o',((w.alloc o).alloc o').heap[w.heap.size]? = some o:=fun o o'=>(Below.heap_alloc _ _ _ (by simp)).trans (heap_alloc_new w o)
 have K2:∀ o o',((w.alloc o).alloc o').heap[w.heap.size + 1]? = some o':=fun o o'=>by have:=heap_alloc_new (w.alloc o) o';simpa using this
 have K1:=Lib.hid K1
 have K2:=Lib.hid K2
 have KS:Hid (∀ o o',((w.alloc o).alloc o').heap.size = w.heap.size + 2):=Lib.hid fun o o'=>by simp
 go_enter Tryz.func76,Tryz.ntmps76
 go_wp2_with (at_builtin;go_must ((refine wpList_app_row _ (by rfl) _ _ 45 (by rfl) (w.heap.size + 2) 158 i0 (.agg #[.string ⟨#[]⟩,.string ⟨#[]⟩]) 2 32 Tryz.underlying45 hi hz0 hz1 hz2 (by rfl) (by decide) (.slice none 0 0) 0 [] (by rfl) (World.ownsRow_nil _ _ _ _) A m c (atC ats) (by rfl) (by rw [atC_length,HA.out.1]) (fun ad ha j u hj=>(HA.out.below (HB.out _ _)).cells ad ha j u hj) (HA.out.none) (atC_one ats) (by omega) (by decide) (by rw [KS.out];exact Nat.le_refl _) (fun v' w1 hown hap=>?_));(obtain ⟨A',c',rfl,hmc,hA',hfr⟩:=own_attrs (by simpa using hown));have k1:=(hap.keep (k:=w.heap.size) (by rw [KS.out];omega) (by intro h;cases h)).trans (K1.out _ _);have k2:=(hap.keep (k:=w.heap.size + 1) (by rw [KS.out];omega) (by intro h;cases h)).trans (K2.out _ _);have hbw:=(HB.out _ _).trans (hap.below (B:=w.heap.size) (by rw [KS.out];omega) (fun k hk=>by cases hk));have hsz:=hap.grown.size;rw [KS.out] at hsz;have c0:w1.cell? ⟨w.heap.size,0,none⟩ = some (.int .i64 ek):=(by rw [cell_heap k1];rfl);have c1:w1.cell? ⟨w.heap.size,1,none⟩ = some (.int .i64 en):=(by rw [cell_heap k1];rfl);have c2:w1.cell? ⟨w.heap.size,2,none⟩ = some (.int .i64 ed):=(by rw [cell_heap k1];rfl);have c3:w1.cell? ⟨w.heap.size,3,none⟩ = some (.string N):=(by rw [cell_heap k1];rfl);have c4:w1.cell? ⟨w.heap.size,4,none⟩ = some (.slice A m c):=(by rw [cell_heap k1];rfl);have c5:w1.cell? ⟨w.heap.size,5,none⟩ = some (.string X):=(by rw [cell_heap k1];rfl);have c6:w1.cell? ⟨w.heap.size,6,none⟩ = some (.int .i64 efr):=(by rw [cell_heap k1];rfl);have c7:w1.cell? ⟨w.heap.size,7,none⟩ = some (.int .i64 ett):=(by rw [cell_heap k1];rfl);have d0:w1.cell? ⟨w.heap.size + 1,0,none⟩ = some (.int .i64 0):=(by rw [cell_heap k2];rfl);have d1:w1.cell? ⟨w.heap.size + 1,1,none⟩ = some (.int .i64 0):=(by rw [cell_heap k2];rfl);have d2:w1.cell? ⟨w.heap.size + 1,2,none⟩ = some (.int .i64 0):=(by rw [cell_heap k2];rfl);have d3:w1.cell? ⟨w.heap.size + 1,3,none⟩ = some (.string ⟨#[]⟩):=(by rw [cell_heap k2];rfl);have d4:w1.cell? ⟨w.heap.size + 1,4,none⟩ = some (.slice none 0 0):=(by rw [cell_heap k2];rfl);have d5:w1.cell? ⟨w.heap.size + 1,5,none⟩ = some (.string ⟨#[]⟩):=(by rw [cell_heap k2];rfl);have d6:w1.cell? ⟨w.heap.size + 1,6,none⟩ = some (.int .i64 0):=(by rw [cell_heap k2];rfl);have d7:w1.cell? ⟨w.heap.size + 1,7,none⟩ = some (.int .i64 0):=(by rw [cell_heap k2];rfl);have f1:∀ j,w1.frozen? ⟨w.heap.size,j,none⟩ = false:=fun j=>frozen_heap k1;have f2:∀ j,w1.frozen? ⟨w.heap.size + 1,j,none⟩ = false:=fun j=>frozen_heap k2;clear hown hap k1 k2))
 (try simp only [Exit.inBlock,Exit.then])
 refine bodyPost_ret (v:=.agg #[.int .i64 ek,.int .i64 en,.int .i64 ed,.string N,.slice A' m c',.string X,.int .i64 efr,.int .i64 ett]) ?_ rfl ⟨A',c',rfl,hmc,?_,fun ad h=>Nat.le_trans (Nat.le_add_right _ _) (hfr ad h),?_⟩
 ·rw [results_cell1 rfl]
  go_simp
 ·refine hA'.keep (by simp [World.setCell]) fun b o h _=>?_
  have hb:=hfr _ h
  simp only at hb
  iterate 9 rw [Below.heap_setCell _ _ _ _ (by simp only;omega)]
 ·iterate 9 refine Below.setCell ?_ (by simp only;omega) _
  exact hbw
end Go.Proofs.YtgjokdngbocehaaGreatDoor
namespace Go.Proofs.YtgjokdngbocehaaGreatDoor
open Go.RowKit
def setC:World → Nat → Nat → List Value → World
 | w,_,_,[]=>w
 | w,g,p,v :: l=>setC (w.setCell ⟨g,p,none⟩ v) g (p + 1) l
def setL:List Value → Nat → List Value → List Value
 | cs,_,[]=>cs
 | cs,p,v :: l=>setL (cs.set p v) (p + 1) l
theorem setL_low:∀ (l cs:List Value) (p q:Nat),q < p → (setL cs p l)[q]? = cs[q]?
 | [],_,_,_,_=>rfl
 | v :: l,cs,p,q,h=>by
  unfold setL
  rw [setL_low l _ _ _ (by omega),List.getElem?_set,if_neg (by omega)]
theorem setL_at:∀ (l cs:List Value) (p j:Nat),p + l.length ≤ cs.length → j < l.length → (setL cs p l)[p + j]? = l[j]?
 | [],_,_,j,_,h=>by simp at h
 | v :: l,cs,p,0,h,_=>by
  rw [List.length_cons] at h
  unfold setL
  rw [setL_low l _ _ _ (by omega),List.getElem?_set]
  simp;omega
 | v :: l,cs,p,j + 1,h,hj=>by
  rw [List.length_cons] at h hj
  unfold setL
  rw [show p + (j + 1) = p + 1 + j by omega,setL_at l _ _ _ (by rw [List.length_set];omega) (by omega)]
  rfl
theorem setC_own {base g n cap:Nat} {e:TypeId} {size:Nat}:∀ (l:List Value) (w:World) (cs:List Value) (p:Nat),w.ownsRow base e size (.slice (some ⟨g,0,none⟩) n cap) n cs →
  (setC w g p l).ownsRow base e size (.slice (some ⟨g,0,none⟩) n cap) n (setL cs p l)
 | [],_,_,_,h=>h
 | v :: l,_,_,p,h=>setC_own l _ _ _ (h.stored p v).1
theorem setC_size:∀ (l:List Value) (w:World) (g p:Nat),(setC w g p l).heap.size = w.heap.size
 | [],_,_,_=>rfl
 | v :: l,w,g,p=>by unfold setC;rw [setC_size l];simp [World.setCell]
theorem setC_far:∀ (l:List Value) (w:World) (g p k:Nat),k ≠ g → (setC w g p l).heap[k]? = w.heap[k]?
 | [],_,_,_,_,_=>rfl
 | v :: l,w,g,p,k,h=>by unfold setC;rw [setC_far l _ _ _ _ h,Below.heap_setCell _ _ _ _ h]
theorem setC_below {B:Nat} {a:World}:∀ (l:List Value) (w:World) (g p:Nat),B ≤ g → Below B a w → Below B a (setC w g p l)
 | [],_,_,_,_,hb=>hb
 | v :: l,_,g,p,h,hb=>setC_below l _ g (p + 1) h (hb.setCell (p:=⟨g,p,none⟩) h v)
def EvRow (w:World) (B k:Nat) (evs:List Ev) (cs:List Value):Prop :=
 ∀ i,(h:i < evs.length) → i < k → ∃ A m c,m ≤ c ∧ AttrsAt w A m evs[i].ats ∧ (∀ ad,A = some ad → B ≤ ad.block) ∧ ∀ j,j < 8 → cs[i * 8 + j]? = (evL evs[i] A m c)[j]?
theorem EvRow.step {w w':World} {B k:Nat} {evs:List Ev} {cs:List Value} (h:EvRow w B k evs cs) (hlen:cs.length = evs.length * 8) (hk:k < evs.length) (hs:w.heap.size ≤ w'.heap.size)
  (hb:∀ b,B ≤ b → b < w.heap.size → w'.heap[b]? = w.heap[b]?) (A:Option Addr) (m c:Nat) (hmc:m ≤ c) (hA:AttrsAt w' A m evs[k].ats) (hfr:∀ ad,A = some ad → B ≤ ad.block) :
  EvRow w' B (k + 1) evs (setL cs (k * 8) (evL evs[k] A m c)):=by
 have hel:∀ (e:Ev) (A:Option Addr) (m c:Nat),(evL e A m c).length = 8:=fun _ _ _ _=>rfl
 intro i hi hik
 by_cases h0:i = k
 ·subst h0
  exact ⟨A,m,c,hmc,hA,hfr,fun j hj=>setL_at _ _ _ _ (by rw [hel];omega) (by rw [hel];exact hj)⟩
 ·obtain ⟨A',m',c',h1,h2,h3,h4⟩:=h i hi (by omega)
  refine ⟨A',m',c',h1,h2.keep hs fun b o e hlt=>hb b (h3 _ e) hlt,h3,fun j hj=>?_⟩
  rw [setL_low _ _ _ _ (by omega),h4 j hj]
set_option maxRecDepth 1000000 in
set_option maxHeartbeats 4000000 in
theorem copied_any (a:Option Addr) (n c:Nat) (evs:List Ev) (w:World) (hE:EvsAt w a n evs) (hn:n ≤ 1048576) (hl:∀ e ∈ evs,e.ats.length ≤ 1048576) :
  Calls Tryz.prog 42 #[.slice a n c] w fun e w'=>∃ cs,e = .returned (.slice (some ⟨w.heap.size,0,none⟩) n n) ∧ w'.ownsRow w.heap.size 47 8 (.slice (some ⟨w.heap.size,0,none⟩) n n) n cs ∧ EvRow w' (w.heap.size + 1) n evs cs ∧ Below w.heap.size w w':=by
 obtain ⟨i0,hi,hz0,hz1,hz2⟩:=info_parts infoEv
 have HE:=Lib.hid hE
 have HN:Hid (n = evs.length):=Lib.hid hE.1
 have HL:=Lib.hid hl
 clear hE hl
 go_enter Tryz.func42,Tryz.ntmps42
 go_wp2_with (at_make;go_must ((refine wpList_make_full _ (by rfl) _ _ 22 (by rfl) w.heap.size 47 i0 _ 8 Tryz.underlying22 hi hz0 hz1 .i64 .i64 (n:Int) (n:Int) n (by rfl) (by rfl) rfl rfl (by rw [hz2];omega) (by unfold maxLen;omega) (Nat.le_refl _) (fun w1 hown hgr=>?_))))
 have hb1:Below w.heap.size w w1:=(Below.refl _ w).grown hgr (Nat.le_refl _) (fun k hk=>by cases hk)
 generalize (madeCells _ (n * 8)).toList = cs0 at hown
 go_loopw [11] (fun iv wr=>∃ (k:Nat) (cs:List Value),iv = .int .i64 k ∧ k ≤ n ∧ Below w.heap.size w wr ∧ wr.ownsRow w.heap.size 47 8 (.slice (some ⟨w.heap.size,0,none⟩) n n) n cs ∧ EvRow wr (w.heap.size + 1) k evs cs) (fun iv _=>n - (intOf iv).toNat)
 case atStart=>exact ⟨0,cs0,rfl,Nat.zero_le _,hb1,hown,fun i hi h=>by omega⟩
 case round =>
  obtain ⟨k,cs,rfl,hk,hbr,hor,hrow⟩:=hrel
  by_cases hkn:k < n
  ·have hkl:k < evs.length:=by rw [← HN.out];exact hkn
   obtain ⟨b,o,A,m,c',rfl,hb,hmc,hA,hcells⟩:=HE.out.at8 k hkl
   obtain ⟨e0,e1,e2,e3,e4,e5,e6,e7⟩:=hcells wr hbr
   have hla:=HL.out _ (List.getElem_mem hkl)
   have hm:m ≤ 1048576:=by rw [hA.1];exact hla
   clear hla
   have HONE:Hid (∀ W,Below w.heap.size w W → Calls Tryz.prog 76 #[.agg #[.int .i64 evs[k].kind,.int .i64 evs[k].num,.int .i64 evs[k].dep,.string (strL evs[k].name),.slice A m c',.string (strL evs[k].text),.int .i64 evs[k].fr,.int .i64 evs[k].tt]] W fun e w'=>∃ A' c2,e = .returned (.agg (evC evs[k].kind evs[k].num evs[k].dep evs[k].name A' m c2 evs[k].text evs[k].fr evs[k].tt)) ∧ m ≤ c2 ∧ AttrsAt w' A' m evs[k].ats ∧ (∀ ad,A' = some ad → W.heap.size ≤ ad.block) ∧ Below W.heap.size W w'):=Lib.hid fun W hW=>one_any _ _ _ _ _ _ _ A m c' _ W (hA.below hW) hm
   have HOR:=Lib.hid hor
   have HROW:=Lib.hid hrow
   have HBR:=Lib.hid hbr
   have HS1:Hid (w.heap.size < wr.heap.size):=Lib.hid (hor.lt _ rfl).2
   have HB2:Hid (∀ o,Below w.heap.size w (wr.alloc o)):=Lib.hid fun o=>hbr.alloc hbr.size o
   clear hcells hA hor hrow hbr
   go_wp2_with fail
   (with_reducible refine (HONE.out _ (HB2.out _)).mono ?_)
   rintro e w3 ⟨A',c2,rfl,hmc2,hA',hfr,hb3⟩
   unfold evC
   have hkeep:∀ j,j < wr.heap.size → w3.heap[j]? = wr.heap[j]?:=fun j hj=>(hb3.block j (by simp;omega)).trans (Below.heap_alloc _ _ _ hj)
   have hsz:wr.heap.size ≤ w3.heap.size:=Nat.le_trans (by simp) hb3.size
   have hb4:Below w.heap.size w w3:=(HB2.out _).trans (hb3.mono (HB2.out _).size)
   have hfr2:∀ ad,A' = some ad → w.heap.size + 1 ≤ ad.block:=fun ad h=>by have:=hfr ad h;have:=HS1.out;simp at *;omega
   have hor3:=own_block HOR.out (fun j hj=>by cases hj;exact hkeep _ HS1.out)
   have HX:=Lib.hid (⟨hkeep,hsz,hb4,hfr2,hA',hmc2,hor3⟩:_ ∧ _ ∧ _ ∧ _ ∧ _ ∧ _ ∧ _)
   obtain ⟨x0,y0⟩:=own_cell hor3 (k * 8) (by omega)
   obtain ⟨x1,y1⟩:=own_cell hor3 (k * 8 + 1) (by omega)
   obtain ⟨x2,y2⟩:=own_cell hor3 (k * 8 + 2) (by omega)
   obtain ⟨x3,y3⟩:=own_cell hor3 (k * 8 + 3) (by omega)
   obtain ⟨x4,y4⟩:=own_cell hor3 (k * 8 + 4) (by omega)
   obtain ⟨x5,y5⟩:=own_cell hor3 (k * 8 + 5) (by omega)
   obtain ⟨x6,y6⟩:=own_cell hor3 (k * 8 + 6) (by omega)
   obtain ⟨x7,y7⟩:=own_cell hor3 (k * 8 + 7) (by omega)
   have z:=fun j=>hor3.frozenAt j
   clear hkeep hsz hb4 hfr hfr2 hb3 hA' hor3 hmc2
   go_wp2_with fail
   obtain ⟨hkeep,hsz,hb4,hfr2,hA',hmc2,hor3⟩:=HX.out
   have hlen:cs.length = evs.length * 8:=by have:=HOR.out.1;have:=HN.out;omega
   have hstep:=HROW.out.step (w':=setC w3 w.heap.size (k * 8) (evL evs[k] A' m c2)) hlen hkl (by rw [setC_size];exact hsz) (fun j h1 h2=>by rw [setC_far _ _ _ _ _ (by omega)];exact hkeep j h2) A' m c2 hmc2 (hA'.keep (by rw [setC_size];exact Nat.le_refl _) (fun j o' e hlt=>setC_far _ _ _ _ _ (by have:=hfr2 _ e;simp only at this;omega))) hfr2
   have hown':=setC_own (evL evs[k] A' m c2) w3 cs (k * 8) hor3
   have hbelow':=setC_below (evL evs[k] A' m c2) w3 w.heap.size (k * 8) (Nat.le_refl _) hb4
   go_roundw
   case rel=>exact ⟨k + 1,setL cs (k * 8) (evL evs[k] A' m c2),by go_num,by omega,hbelow',hown',hstep⟩
   case measure=>simp [intOf];omega
  ·have hk2:k = n:=by omega
   subst hk2
   go_wp2_with fail
   go_ret
   exact ⟨cs,rfl,hor,hrow,hbr⟩
end Go.Proofs.YtgjokdngbocehaaGreatDoor
namespace Go.Proofs.YtgjokdngbocehaaGreatDoor
open Go.RowKit
structure KpX (X:Nat → Prop) (D:Nat) (A B:World):Prop where
 os:B.os = A.os
 tape:B.tape = A.tape
 output:B.output = A.output
 size:A.heap.size ≤ B.heap.size
 block:∀ k,k < D → ¬ X k → B.heap[k]? = A.heap[k]?
theorem KpX.refl (X:Nat → Prop) (D:Nat) (A:World):KpX X D A A:=⟨rfl,rfl,rfl,Nat.le_refl _,fun _ _ _=>rfl⟩
theorem KpX.trans {X:Nat → Prop} {D:Nat} {A B C:World} (h:KpX X D A B) (k:KpX X D B C):KpX X D A C :=
 ⟨k.os.trans h.os,k.tape.trans h.tape,k.output.trans h.output,Nat.le_trans h.size k.size,fun i h1 h2=>(k.block i h1 h2).trans (h.block i h1 h2)⟩
theorem KpX.weak {X Y:Nat → Prop} {D E:Nat} {A B:World} (h:KpX X D A B) (hE:E ≤ D) (hX:∀ k,k < E → X k → Y k):KpX Y E A B :=
 ⟨h.os,h.tape,h.output,h.size,fun i h1 h2=>h.block i (by omega) (fun hx=>h2 (hX i h1 hx))⟩
theorem KpX.below {X:Nat → Prop} {D E:Nat} {A B:World} (h:KpX X D A B) (hE:E ≤ D) (hX:∀ k,k < E → ¬ X k):Below E A B:=⟨h.os,h.tape,h.output,h.size,fun i h1=>h.block i (by omega) (hX i h1)⟩
theorem KpX.set {X:Nat → Prop} {D:Nat} {A B:World} (h:KpX X D A B) {b:Nat} (hb:X b) (j:Nat) (u:Value):KpX X D A (B.setCell ⟨b,j,none⟩ u) :=
 ⟨h.os,h.tape,h.output,by simp [World.setCell];exact h.size,fun k h1 h2=>(Below.heap_setCell _ _ _ _ (fun e=>by have e':k = b:=e;subst e';exact h2 hb)).trans (h.block k h1 h2)⟩
theorem KpX.grown {X:Nat → Prop} {D:Nat} {A B C:World} {row:Option Nat} (h:KpX X D A B) (hg:B.grownBy C row) (hD:D ≤ B.heap.size) (hr:∀ k,row = some k → D ≤ k ∨ X k):KpX X D A C :=
 ⟨hg.os.trans h.os,hg.tape.trans h.tape,hg.output.trans h.output,Nat.le_trans h.size hg.size,fun k h1 h2=>(hg.block k (by omega) (fun e=>by rcases hr k e.symm with h3 | h3;omega;exact h2 h3)).trans (h.block k h1 h2)⟩
theorem kpX_b {X:Nat → Prop} {D:Nat} {w:World} (hn:D ≤ w.heap.size) (W:World) (l:Nat) (o o':Obj) (hl:w.heap.size ≤ l) (h:W.heap[l]? = some o) (_:o.isCells = false) (_:o.isWalk = false):KpX X D W (W.putObj l o') :=
 (KpX.refl X D W).grown (grownBy_putObj' W l o') (by have:=(Array.getElem?_eq_some_iff.1 h).1;omega) (fun k e=>by cases e;exact .inl (by omega))
theorem ownFrom_kpX {β:Type} {X:Nat → Prop} {D B:Nat} {w₀:World} (hn:D ≤ w₀.heap.size) (hB:D ≤ B):OwnFrom B (fun (_:β) W=>KpX X D w₀ W) :=
 fun _ _ _ _ hs hg hr=>hs.grown hg (Nat.le_trans hn hs.size) (fun k e=>.inl (Nat.le_trans hB (hr k e).1))
end Go.Proofs.YtgjokdngbocehaaGreatDoor
namespace Go.Proofs.YtgjokdngbocehaaGreatDoor
open Go.RowKit
def ndL (e:Ev) (x:Nd) (A:Option Addr) (m c:Nat):List Value:=evL e A m c ++ [.int .i64 x.par,.int .i64 x.last,.int .i64 x.pos,.int .i64 x.fin]
theorem ndL_one (e:Ev) (x:Nd) (A:Option Addr) (m c:Nat):∀ u ∈ ndL e x A m c,u.oneCell' = true:=by
 intro u hu
 unfold ndL evL evC at hu
 simp only [List.cons_append,List.nil_append,List.mem_cons,List.not_mem_nil,or_false] at hu
 rcases hu with rfl | rfl | rfl | rfl | rfl | rfl | rfl | rfl | rfl | rfl | rfl | rfl <;> rfl
def NdRow (wc:World) (cb:Nat) (evs:List Ev) (nds:List Nd) (ncs:List Value):Prop :=
 ∀ i x,nds[i]? = some x → ∃ (e:Ev) (A:Option Addr) (m c:Nat),evs[x.pos]? = some e ∧ m ≤ c ∧ AttrsAt wc A m e.ats ∧ (∀ ad,A = some ad → cb < ad.block) ∧ ∀ j,j < 12 → ncs[i * 12 + j]? = (ndL e x A m c)[j]?
theorem NdRow.push {wc:World} {cb:Nat} {evs:List Ev} {nds:List Nd} {ncs:List Value} (h:NdRow wc cb evs nds ncs) (hl:ncs.length = nds.length * 12) (x:Nd) (e:Ev) (A:Option Addr) (m c:Nat)
  (h1:evs[x.pos]? = some e) (h2:m ≤ c) (h3:AttrsAt wc A m e.ats) (h4:∀ ad,A = some ad → cb < ad.block):NdRow wc cb evs (nds ++ [x]) (ncs ++ ndL e x A m c):=by
 intro i y hy
 rcases snoc_get hy with ⟨hi,hy⟩ | ⟨hi,rfl⟩
 ·obtain ⟨e',A',m',c',g1,g2,g3,g4,g5⟩:=h i y hy
  exact ⟨e',A',m',c',g1,g2,g3,g4,fun j hj=>by rw [List.getElem?_append_left (by omega)];exact g5 j hj⟩
 ·exact ⟨e,A,m,c,h1,h2,h3,h4,fun j hj=>by rw [List.getElem?_append_right (by omega),show i * 12 + j - ncs.length = j by omega]⟩
theorem NdRow.close {wc:World} {cb:Nat} {evs:List Ev} {nds:List Nd} {ncs:List Value} (h:NdRow wc cb evs nds ncs) (hl:ncs.length = nds.length * 12) (k:Nat) (hk:k < nds.length) (la:Int) (fi:Nat) :
  NdRow wc cb evs (nds.modify k (fun x=>⟨x.pos,x.par,la,fi⟩)) ((ncs.set (k * 12 + 9) (.int .i64 la)).set (k * 12 + 11) (.int .i64 fi)):=by
 intro i y hy
 rw [List.getElem?_modify] at hy
 cases hx:nds[i]? with
 | none=>rw [hx] at hy;simp at hy
 | some x =>
  rw [hx] at hy
  obtain ⟨e',A',m',c',g1,g2,g3,g4,g5⟩:=h i x hx
  by_cases hik:k = i
  ·subst hik
   simp at hy
   subst hy
   refine ⟨e',A',m',c',g1,g2,g3,g4,fun j hj=>?_⟩
   rw [List.getElem?_set,List.getElem?_set]
   have h11:=g5 j hj
   simp only [List.length_set]
   by_cases j11:j = 11
   ·subst j11
    rw [if_pos rfl,if_pos (by omega)];rfl
   ·rw [if_neg (by omega)]
    by_cases j9:j = 9
    ·subst j9
     rw [if_pos rfl,if_pos (by omega)];rfl
    ·rw [if_neg (by omega),h11]
     match j,hj,j11,j9 with
     | 0,_,_,_=>rfl
     | 1,_,_,_=>rfl
     | 2,_,_,_=>rfl
     | 3,_,_,_=>rfl
     | 4,_,_,_=>rfl
     | 5,_,_,_=>rfl
     | 6,_,_,_=>rfl
     | 7,_,_,_=>rfl
     | 8,_,_,_=>rfl
     | 10,_,_,_=>rfl
     | j + 12,h,_,_=>exact absurd h (by omega)
  ·simp [hik] at hy
   subst hy
   refine ⟨e',A',m',c',g1,g2,g3,g4,fun j hj=>?_⟩
   rw [List.getElem?_set,List.getElem?_set,if_neg (by omega),if_neg (by omega)]
   exact g5 j hj
def opC (l:List (Int × Int × List UInt8)):List Value:=.int .i64 (-1) :: (l.reverse.map fun x=>.int .i64 x.1)
theorem opC_cons (x:Int × Int × List UInt8) (l:List (Int × Int × List UInt8)):opC (x :: l) = opC l ++ [.int .i64 x.1]:=by simp [opC]
theorem opC_length (l:List (Int × Int × List UInt8)):(opC l).length = l.length + 1:=by simp [opC]
theorem opC_top (l:List (Int × Int × List UInt8)):(opC l)[l.length]? = some (.int .i64 ((l.head?.map (·.1)).getD (-1))):=by
 cases l with
 | nil=>rfl
 | cons x r=>rw [opC_cons,List.length_cons,← opC_length];simp
theorem own_ne {w:World} {B B' n n' size size':Nat} {e e':TypeId} {v v':Value} {xs xs':List Value} (h:w.ownsRow B e size v n xs) (h':w.ownsRow B' e' size' v' n' xs') (he:e ≠ e'):∀ k,v.ownBlock = some k → v'.ownBlock ≠ some k:=by
 intro k hk hk'
 rcases h.2 with ⟨rfl,_⟩ | ⟨g,cap,cur,rfl,_,hg,_⟩
 ·cases hk
 ·cases hk
  rcases h'.2 with ⟨rfl,_⟩ | ⟨g',cap',cur',rfl,_,hg',_⟩
  ·cases hk'
  ·cases hk'
   rw [hg] at hg'
   cases hg'
   exact he rfl
structure BInv (wc:World) (cb ge n:Nat) (evs:List Ev) (sC s:BegS) (nds:List Nd) (vC vN vO:Value) (W:World):Prop where
 os:W.os = wc.os
 tape:W.tape = wc.tape
 output:W.output = wc.output
 size:wc.heap.size + 2 ≤ W.heap.size
 block:∀ j,j < wc.heap.size → j ≠ cb → W.heap[j]? = wc.heap[j]?
 chk:Chk W (wc.heap.size + 2) cb vC sC
 tree:W.heap[wc.heap.size]? = some (.cells #[.slice (some ⟨ge,0,none⟩) n n,vN] 109 (0,0))
 nds':∃ ncs,W.ownsRow (wc.heap.size + 2) 113 12 vN nds.length ncs ∧ NdRow wc cb evs nds ncs
 opn:W.ownsRow (wc.heap.size + 1) 3 1 vO (s.opn.length + 1) (opC s.opn)
variable {wc W W':World} {cb ge n:Nat} {evs:List Ev} {sC sC' s s':BegS} {nds nds':List Nd} {vC vC' vN vN' vO vO':Value}
theorem BInv.ne (h:BInv wc cb ge n evs sC s nds vC vN vO W) (hcb:cb < wc.heap.size) :
  (∀ k,vC.ownBlock = some k → wc.heap.size + 2 ≤ k ∧ k < W.heap.size) ∧ (∀ k,vN.ownBlock = some k → wc.heap.size + 2 ≤ k ∧ k < W.heap.size) ∧ (∀ k,vO.ownBlock = some k → wc.heap.size + 1 ≤ k ∧ k < W.heap.size) ∧
  (∀ k,vC.ownBlock = some k → vN.ownBlock ≠ some k ∧ vO.ownBlock ≠ some k) ∧ (∀ k,vN.ownBlock = some k → vO.ownBlock ≠ some k) ∧ cb < W.heap.size ∧ wc.heap.size < W.heap.size:=by
 obtain ⟨ncs,hn,_⟩:=h.nds'
 have hs:=h.size
 exact ⟨fun k hk=>h.chk.own.lt k hk,fun k hk=>hn.lt k hk,fun k hk=>h.opn.lt k hk,fun k hk=>⟨own_ne h.chk.own hn (by decide) k hk,own_ne h.chk.own h.opn (by decide) k hk⟩,fun k hk=>own_ne hn h.opn (by decide) k hk,by omega,by omega⟩
theorem BInv.below (h:BInv wc cb ge n evs sC s nds vC vN vO W) (hcb:cb < wc.heap.size) (hb:Below W.heap.size W W'):BInv wc cb ge n evs sC s nds vC vN vO W':=by
 obtain ⟨a1,a2,a3,a4,a5,a6,a7⟩:=h.ne hcb
 obtain ⟨ncs,hn,hr⟩:=h.nds'
 exact ⟨hb.os.trans h.os,hb.tape.trans h.tape,hb.output.trans h.output,Nat.le_trans h.size hb.size,fun j h1 h2=>(hb.block j (by omega)).trans (h.block j h1 h2),h.chk.below hb,(hb.block _ a7).trans h.tree,
  ⟨ncs,own_block hn (fun k hk=>hb.block k (a2 k hk).2),hr⟩,own_block h.opn (fun k hk=>hb.block k (a3 k hk).2)⟩
theorem BInv.take (h:BInv wc cb ge n evs sC s nds vC vN vO W) (hcb:cb < wc.heap.size) (hm:Moved cb vC vC' W W') (hc:Chk W' (wc.heap.size + 2) cb vC' sC'):BInv wc cb ge n evs sC' s nds vC' vN vO W':=by
 obtain ⟨a1,a2,a3,a4,a5,a6,a7⟩:=h.ne hcb
 obtain ⟨ncs,hn,hr⟩:=h.nds'
 refine ⟨hm.os.trans h.os,hm.tape.trans h.tape,hm.output.trans h.output,Nat.le_trans h.size hm.size,fun j h1 h2=>(hm.block j (by omega) h2 (fun e=>by have:=a1 j e;omega)).trans (h.block j h1 h2),hc,(hm.block _ a7 (by omega) (fun e=>by have:=a1 _ e;omega)).trans h.tree,
  ⟨ncs,own_block hn (fun k hk=>hm.block k (a2 k hk).2 (fun e=>by have:=a2 k hk;omega) (fun e=>(a4 k e).1 hk)),hr⟩,own_block h.opn (fun k hk=>hm.block k (a3 k hk).2 (fun e=>by have:=a3 k hk;omega) (fun e=>(a4 k e).2 hk))⟩
theorem BInv.node (h:BInv wc cb ge n evs sC s nds vC vN vO W) (hcb:cb < wc.heap.size) (hm:Moved wc.heap.size vN vN' W W') (ht:W'.heap[wc.heap.size]? = some (.cells #[.slice (some ⟨ge,0,none⟩) n n,vN'] 109 (0,0)))
  (hn':∃ ncs,W'.ownsRow (wc.heap.size + 2) 113 12 vN' nds'.length ncs ∧ NdRow wc cb evs nds' ncs):BInv wc cb ge n evs sC s nds' vC vN' vO W':=by
 obtain ⟨a1,a2,a3,a4,a5,a6,a7⟩:=h.ne hcb
 refine ⟨hm.os.trans h.os,hm.tape.trans h.tape,hm.output.trans h.output,Nat.le_trans h.size hm.size,fun j h1 h2=>(hm.block j (by omega) (by omega) (fun e=>by have:=a2 j e;omega)).trans (h.block j h1 h2),?_,ht,hn',
  own_block h.opn (fun k hk=>hm.block k (a3 k hk).2 (fun e=>by have:=a3 k hk;omega) (fun e=>a5 k e hk))⟩
 exact h.chk.keep hm.size (hm.block cb a6 (by omega) (fun e=>by have:=a2 _ e;omega)) (fun k h1 h2 hk=>hm.block k h2 (by omega) (fun e=>(a4 k hk).1 e))
theorem BInv.open' (h:BInv wc cb ge n evs sC s nds vC vN vO W) (hcb:cb < wc.heap.size) (hm:Moved W.heap.size vO vO' W W') (ho:W'.ownsRow (wc.heap.size + 1) 3 1 vO' (s'.opn.length + 1) (opC s'.opn)):BInv wc cb ge n evs sC s' nds vC vN vO' W':=by
 obtain ⟨a1,a2,a3,a4,a5,a6,a7⟩:=h.ne hcb
 obtain ⟨ncs,hn,hr⟩:=h.nds'
 refine ⟨hm.os.trans h.os,hm.tape.trans h.tape,hm.output.trans h.output,Nat.le_trans h.size hm.size,fun j h1 h2=>(hm.block j (by omega) (by omega) (fun e=>by have:=a3 j e;omega)).trans (h.block j h1 h2),?_,(hm.block _ a7 (by omega) (fun e=>by have:=a3 _ e;omega)).trans h.tree,
  ⟨ncs,own_block hn (fun k hk=>hm.block k (a2 k hk).2 (by have:=a2 k hk;omega) (fun e=>a5 k hk e)),hr⟩,ho⟩
 exact h.chk.keep hm.size (hm.block cb a6 (by omega) (fun e=>by have:=a3 _ e;omega)) (fun k h1 h2 hk=>hm.block k h2 (by omega) (fun e=>(a4 k hk).2 e))
theorem Moved.setOwn {x g:Nat} {v v':Value} {w w':World} (h:Moved x v v' w w') (hv:v.ownBlock = some g) (i:Nat) (u:Value):Moved x v v' w (w'.setCell ⟨g,i,none⟩ u) :=
 ⟨h.os,h.tape,h.output,by simp [World.setCell];exact h.size,fun k h1 h2 h3=>(Below.heap_setCell _ _ _ _ (fun e=>h3 (by rw [hv];exact congrArg some e.symm))).trans (h.block k h1 h2 h3),h.own⟩
theorem EvRow.at8 {w W:World} {cb ge B n:Nat} {evs:List Ev} {cs:List Value} (ho:w.ownsRow B 47 8 (.slice (some ⟨ge,0,none⟩) n n) n cs) (h:EvRow w (ge + 1) n evs cs) (hn:n = evs.length) (i:Nat) (hi:i < n) (hcb:cb < ge) (hW:∀ j,j < w.heap.size → j ≠ cb → W.heap[j]? = w.heap[j]?) :
  ∃ (e:Ev) (A:Option Addr) (m c:Nat),evs[i]? = some e ∧ m ≤ c ∧ AttrsAt w A m e.ats ∧ (∀ ad,A = some ad → cb < ad.block) ∧
   W.cell? ⟨ge,i * 8,none⟩ = some (.int .i64 e.kind) ∧ W.cell? ⟨ge,i * 8 + 1,none⟩ = some (.int .i64 e.num) ∧ W.cell? ⟨ge,i * 8 + 2,none⟩ = some (.int .i64 e.dep) ∧ W.cell? ⟨ge,i * 8 + 3,none⟩ = some (.string (strL e.name)) ∧
   W.cell? ⟨ge,i * 8 + 4,none⟩ = some (.slice A m c) ∧ W.cell? ⟨ge,i * 8 + 5,none⟩ = some (.string (strL e.text)) ∧ W.cell? ⟨ge,i * 8 + 6,none⟩ = some (.int .i64 e.fr) ∧ W.cell? ⟨ge,i * 8 + 7,none⟩ = some (.int .i64 e.tt):=by
 obtain ⟨A,m,c,hmc,hA,hfr,hc⟩:=h i (by omega) hi
 have hg:=(ho.lt ge rfl).2
 have hk:=hW ge hg (by omega)
 have hcell:∀ j,j < 8 → W.cell? ⟨ge,i * 8 + j,none⟩ = (evL evs[i] A m c)[j]?:=fun j hj=>by
  have e1:W.cell? ⟨ge,i * 8 + j,none⟩ = w.cell? ⟨ge,i * 8 + j,none⟩:=by simp only [World.cell?,hk]
  rw [e1,ho.cellAt _ (by omega),hc j hj]
 exact ⟨evs[i],A,m,c,List.getElem?_eq_getElem (by omega),hmc,hA,fun ad h=>by have:=hfr ad h;omega,hcell 0 (by decide),hcell 1 (by decide),hcell 2 (by decide),hcell 3 (by decide),hcell 4 (by decide),hcell 5 (by decide),hcell 6 (by decide),hcell 7 (by decide)⟩
end Go.Proofs.YtgjokdngbocehaaGreatDoor
