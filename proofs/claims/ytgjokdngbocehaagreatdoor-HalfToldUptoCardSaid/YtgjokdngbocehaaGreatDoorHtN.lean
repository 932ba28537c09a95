/-
  A check of events in memory, and what a call turns of it.
-/
import Derived.IntWalk
import Derived.Test.YtgjokdngbocehaaGreatDoorHtA
import Derived.Test.YtgjokdngbocehaaGreatDoorHtD
import Derived.Test.YtgjokdngbocehaaGreatDoorHtF
import Derived.Test.YtgjokdngbocehaaGreatDoorHtG
import Derived.Test.YtgjokdngbocehaaGreatDoorHtH
import Derived.Test.YtgjokdngbocehaaGreatDoorHtI
import Derived.Test.YtgjokdngbocehaaGreatDoorHtM
namespace Go.Proofs.YtgjokdngbocehaaGreatDoor
open Go.RowKit
def ckRow (x:Int × Int × List UInt8):List Value:=[.int .i64 0,.int .i64 x.1,.int .i64 x.2.1,.string (strL x.2.2),.slice none 0 0,.string ⟨#[]⟩,.int .i64 0,.int .i64 0]
def ckC (l:List (Int × Int × List UInt8)):List Value:=l.reverse.flatMap ckRow
theorem ckC_cons (x:Int × Int × List UInt8) (l:List (Int × Int × List UInt8)):ckC (x :: l) = ckC l ++ ckRow x:=by
 unfold ckC
 rw [List.reverse_cons,List.flatMap_append]
 simp
theorem ckC_length (l:List (Int × Int × List UInt8)):(ckC l).length = l.length * 8:=by
 induction l with
 | nil=>rfl
 | cons x l ih=>rw [ckC_cons,List.length_append,ih,List.length_cons];show _ + 8 = _;omega
theorem ckC_top (x:Int × Int × List UInt8) (l:List (Int × Int × List UInt8)) (j:Nat) (hj:j < 8):(ckC (x :: l))[l.length * 8 + j]? = (ckRow x)[j]?:=by
 rw [ckC_cons,← ckC_length,List.getElem?_append_right (by omega),Nat.add_sub_cancel_left]
theorem ckRow_one (x:Int × Int × List UInt8):∀ u ∈ ckRow x,u.oneCell' = true:=by
 intro u hu
 unfold ckRow at hu
 simp only [List.mem_cons,List.not_mem_nil,or_false] at hu
 rcases hu with rfl | rfl | rfl | rfl | rfl | rfl | rfl | rfl <;> rfl
structure Chk (w:World) (R cb:Nat) (v:Value) (s:BegS):Prop where
 lt:cb < R
 le:R ≤ w.heap.size
 at':w.heap[cb]? = some (.cells #[v,.int .i64 s.next,.bool s.text,.bool (decide (s.opn = [] ∧ s.cnt ≠ 0))] 105 (0,0))
 own:w.ownsRow R 47 8 v s.opn.length (ckC s.opn)
 fst:s.cnt = 0 → s.next = 0
 sm:s.opn.length ≤ 1048576 ∧ 0 ≤ s.next ∧ s.next ≤ 1048576
structure Moved (cb:Nat) (v v':Value) (w w':World):Prop where
 os:w'.os = w.os
 tape:w'.tape = w.tape
 output:w'.output = w.output
 size:w.heap.size ≤ w'.heap.size
 block:∀ k,k < w.heap.size → k ≠ cb → v.ownBlock ≠ some k → w'.heap[k]? = w.heap[k]?
 own:v'.ownBlock = v.ownBlock ∨ ∀ k,v'.ownBlock = some k → w.heap.size ≤ k
theorem Moved.of {cb:Nat} {v:Value} {w w':World} (h:Below w.heap.size w w'):Moved cb v v w w':=⟨h.os,h.tape,h.output,h.size,fun k hk _ _=>h.block k hk,.inl rfl⟩
theorem Moved.trans {cb:Nat} {v1 v2 v3:Value} {a b c:World} (h:Moved cb v1 v2 a b) (k:Moved cb v2 v3 b c):Moved cb v1 v3 a c:=by
 refine ⟨k.os.trans h.os,k.tape.trans h.tape,k.output.trans h.output,Nat.le_trans h.size k.size,fun i h1 h2 h3=>?_,?_⟩
 ·refine (k.block i (Nat.lt_of_lt_of_le h1 h.size) h2 (fun e=>?_)).trans (h.block i h1 h2 h3)
  rcases h.own with ho | ho
  ·rw [ho] at e;exact h3 e
  ·have:=ho i e;omega
 ·rcases k.own with ho | ho
  ·rw [ho];exact h.own
  ·exact .inr fun i hi=>Nat.le_trans h.size (ho i hi)
theorem Moved.set {cb:Nat} {v v':Value} {w w':World} (h:Moved cb v v' w w') (i:Nat) (u:Value):Moved cb v v' w (w'.setCell ⟨cb,i,none⟩ u) :=
 ⟨h.os,h.tape,h.output,by simp [World.setCell];exact h.size,fun k h1 h2 h3=>(Below.heap_setCell _ _ _ _ h2).trans (h.block k h1 h2 h3),h.own⟩
theorem Moved.app {cb:Nat} {v v':Value} {w w':World} (h:App w w' v v'):Moved cb v v' w w' :=
 ⟨h.grown.os,h.grown.tape,h.grown.output,h.grown.size,fun k h1 _ h3=>h.keep h1 h3,by
  rcases h.own with e | ⟨g,e,hg⟩
  ·exact .inl e
  ·exact .inr fun k hk=>by rw [e] at hk;cases hk;exact hg⟩
theorem Moved.drewN {cb:Nat} {v v':Value} {w w':World} (h:Moved cb v v' w w') (n:Nat):Moved cb v v' w (w'.drewN n):=⟨h.os,h.tape,h.output,h.size,h.block,h.own⟩
theorem Moved.below {cb B:Nat} {v v':Value} {w w':World} (h:Moved cb v v' w w') (h1:B ≤ cb) (h2:B ≤ w.heap.size) (h3:∀ k,v.ownBlock = some k → B ≤ k):Below B w w' :=
 ⟨h.os,h.tape,h.output,h.size,fun k hk=>h.block k (by omega) (by omega) (fun e=>by have:=h3 k e;omega)⟩
theorem Chk.keep {w w':World} {R cb:Nat} {v:Value} {s:BegS} (h:Chk w R cb v s) (hs:w.heap.size ≤ w'.heap.size) (h1:w'.heap[cb]? = w.heap[cb]?) (h2:∀ k,R ≤ k → k < w.heap.size → v.ownBlock = some k → w'.heap[k]? = w.heap[k]?):Chk w' R cb v s :=
 ⟨h.lt,Nat.le_trans h.le hs,h1.trans h.at',own_block h.own (fun k hk=>h2 k (h.own.lt k hk).1 (h.own.lt k hk).2 hk),h.fst,h.sm⟩
theorem Chk.below {w w':World} {R cb:Nat} {v:Value} {s:BegS} (h:Chk w R cb v s) (hb:Below w.heap.size w w'):Chk w' R cb v s :=
 h.keep hb.size (hb.block cb (Nat.lt_of_lt_of_le h.lt h.le)) (fun k _ hk _=>hb.block k hk)
theorem step_app {P:Program} (w:World) {ops:Array Oper} {o:Oper} {a:Act} {K:Act → World → Prop} {Q:Exit → Act → World → Prop} {E:Prop} (hgd:o.guard = none) (s x:Operand) (t:TypeId)
  (ho:o.op = .call { callee:=.builtin .append,args:=#[s,x],argTypes:=#[t,t] })
  (base:Nat) (e:TypeId) (i:TypeInfo) (z:Value) (size bytes:Nat) (ht:P.underlying t = some (.slice e)) (hi:P.info? e = some i) (hz:i.zero = some z)
  (hsize:i.size = size) (hby:i.bytes = bytes) (hzs:z.cells.size = size) (hsz:0 < size)
  (v:Value) (n:Nat) (xs:List Value) (hs:a.eval s = v) (hown:w.ownsRow base e size v n xs)
  (H:Nat) (c:Nat) (news:List Value) (hx:a.eval x = .slice (some ⟨H,0,none⟩) 1 c) (hl:news.length = size) (hc:w.heap[H]? = some (.cells news.toArray e (0,0))) (h1:∀ u ∈ news,u.oneCell' = true)
  (hn:n + 1 ≤ 4294967296) (hbb:bytes ≤ 16384) (hbase:base ≤ w.heap.size)
  (h:∀ v' w',w'.ownsRow base e size v' (n + 1) (xs ++ news) → App w w' v v' → K (a.put o.dst v') w') :
  if Region.wanted o (yielded ops a.tmps) = true then Oper.wp P o a w K Q else E:=by
 have hw:Region.wanted o (yielded ops a.tmps) = true:=by simp [Region.wanted,hgd]
 rw [if_pos hw]
 have hb:(n + 1) * bytes ≤ 140737488355328:=Nat.le_trans (Nat.mul_le_mul hn hbb) (by decide)
 obtain ⟨v',w',hr,h2,h3,_,h5⟩:=run_append_own_at (P:=P) w base t o.type e i z size bytes ht hi hz hsize hby hzs hsz v n xs hown ⟨H,0,none⟩ 1 c news (by omega) (fun j u hj=>by rw [show (⟨H,0,none⟩:Addr).add j = ⟨H,j,none⟩ by rw [add_cell,Nat.zero_add],cell_heap hc];simpa using hj) h1 (by unfold maxLen;omega) hb hbase
 unfold Oper.wp execOp
 simp only [ho,resolve,invoke,builtin,Sem.run_bind,Sem.run_pure,Result.andThen_ok,List.map_toArray,List.map_cons,List.map_nil,hs,hx,hr]
 refine h v' w' h2 ⟨h3,?_⟩
 rcases h5 with h5 | h5
 ·exact .inl h5
 ·exact .inr ⟨_,h5,Nat.le_refl _⟩
end Go.Proofs.YtgjokdngbocehaaGreatDoor
namespace Go.Proofs.YtgjokdngbocehaaGreatDoor
open Go.RowKit
theorem own_neH {w:World} {B B' n n' size size':Nat} {e e':TypeId} {v v':Value} {xs xs':List Value} (h:w.ownsRow B e size v n xs) (h':w.ownsRow B' e' size' v' n' xs') (he:e ≠ e'):∀ k,v.ownBlock = some k → v'.ownBlock ≠ some k:=by
 intro k hk hk'
 rcases h.2 with ⟨rfl,_⟩ | ⟨g,cap,cur,rfl,_,hg,_⟩
 ·cases hk
 ·cases hk
  rcases h'.2 with ⟨rfl,_⟩ | ⟨g',cap',cur',rfl,_,hg',_⟩
  ·cases hk'
  ·cases hk'
   rw [hg] at hg'
   cases hg'
   exact he rfl
structure RInv (w:World) (a:Option Addr) (n c:Nat) (sC:BegS) (hs:List HN) (o:List Nat) (vC vN vO:Value) (W:World):Prop where
 old:Below w.heap.size w W
 size:w.heap.size + 4 ≤ W.heap.size
 chk:Chk W (w.heap.size + 4) w.heap.size vC sC
 bg:W.heap[w.heap.size + 2]? = some (.cells #[.slice a n c,vN] 95 (0,0))
 nds:∃ ncs,W.ownsRow (w.heap.size + 1) 99 14 vN hs.length ncs ∧ HnRow w hs ncs
 opn:W.ownsRow (w.heap.size + 3) 3 1 vO o.length (tsC (o.map fun (k:Nat)=>(k:Int)))
variable {w W W':World} {a:Option Addr} {n c:Nat} {sC sC':BegS} {hs hs':List HN} {o o':List Nat} {vC vC' vN vN' vO vO':Value}
theorem RInv.ne (h:RInv w a n c sC hs o vC vN vO W) :
  (∀ k,vC.ownBlock = some k → w.heap.size + 4 ≤ k ∧ k < W.heap.size) ∧ (∀ k,vN.ownBlock = some k → w.heap.size + 1 ≤ k ∧ k < W.heap.size ∧ k ≠ w.heap.size + 2) ∧ (∀ k,vO.ownBlock = some k → w.heap.size + 3 ≤ k ∧ k < W.heap.size) ∧
  (∀ k,vC.ownBlock = some k → vN.ownBlock ≠ some k ∧ vO.ownBlock ≠ some k) ∧ (∀ k,vN.ownBlock = some k → vO.ownBlock ≠ some k):=by
 obtain ⟨ncs,hn,_⟩:=h.nds
 refine ⟨fun k hk=>h.chk.own.lt k hk,fun k hk=>⟨(hn.lt k hk).1,(hn.lt k hk).2,fun e=>?_⟩,fun k hk=>h.opn.lt k hk,fun k hk=>⟨own_neH h.chk.own hn (by decide) k hk,own_neH h.chk.own h.opn (by decide) k hk⟩,fun k hk=>own_neH hn h.opn (by decide) k hk⟩
 rcases hn.2 with ⟨rfl,_⟩ | ⟨g,cap,cur,rfl,_,hg,_⟩
 ·cases hk
 ·cases hk
  have hb:=h.bg
  rw [← e,hg] at hb
  have h2:=Option.some.inj hb
  injection h2 with _ h3 _
  exact absurd h3 (by decide)
theorem RInv.below (h:RInv w a n c sC hs o vC vN vO W) (hb:Below W.heap.size W W'):RInv w a n c sC hs o vC vN vO W':=by
 obtain ⟨a1,a2,a3,_,_⟩:=h.ne
 obtain ⟨ncs,hn,hr⟩:=h.nds
 exact ⟨h.old.trans (hb.mono h.old.size),Nat.le_trans h.size hb.size,h.chk.below hb,(hb.block _ (by have:=h.size;omega)).trans h.bg,⟨ncs,own_block hn (fun k hk=>hb.block k (a2 k hk).2.1),hr⟩,own_block h.opn (fun k hk=>hb.block k (a3 k hk).2)⟩
theorem RInv.take (h:RInv w a n c sC hs o vC vN vO W) (hm:Moved w.heap.size vC vC' W W') (hc:Chk W' (w.heap.size + 4) w.heap.size vC' sC'):RInv w a n c sC' hs o vC' vN vO W':=by
 obtain ⟨a1,a2,a3,a4,_⟩:=h.ne
 obtain ⟨ncs,hn,hr⟩:=h.nds
 have hsz:=h.size
 exact ⟨h.old.trans (hm.below (Nat.le_refl _) (by omega) (fun k hk=>by have:=(a1 k hk).1;omega)),Nat.le_trans h.size hm.size,hc,(hm.block _ (by omega) (by omega) (fun e=>by have:=(a1 _ e).1;omega)).trans h.bg,
  ⟨ncs,own_block hn (fun k hk=>hm.block k (a2 k hk).2.1 (by have:=(a2 k hk).1;omega) (fun e=>(a4 k e).1 hk)),hr⟩,own_block h.opn (fun k hk=>hm.block k (a3 k hk).2 (by have:=(a3 k hk).1;omega) (fun e=>(a4 k e).2 hk))⟩
theorem RInv.opens (h:RInv w a n c sC hs o vC vN vO W) (hm:Moved W.heap.size vO vO' W W') (ho:W'.ownsRow (w.heap.size + 3) 3 1 vO' o'.length (tsC (o'.map fun (k:Nat)=>(k:Int)))):RInv w a n c sC hs o' vC vN vO' W':=by
 obtain ⟨a1,a2,a3,a4,a5⟩:=h.ne
 obtain ⟨ncs,hn,hr⟩:=h.nds
 have hsz:=h.size
 exact ⟨h.old.trans (hm.below (by omega) (by omega) (fun k hk=>by have:=(a3 k hk).1;omega)),Nat.le_trans h.size hm.size,h.chk.keep hm.size (hm.block _ (by omega) (by omega) (fun e=>by have:=(a3 _ e).1;omega)) (fun k _ h2 hk=>hm.block k h2 (by omega) (fun e=>(a4 k hk).2 e)),
  (hm.block _ (by omega) (by omega) (fun e=>by have:=(a3 _ e).1;omega)).trans h.bg,⟨ncs,own_block hn (fun k hk=>hm.block k (a2 k hk).2.1 (by have:=(a2 k hk).2.1;omega) (fun e=>a5 k hk e)),hr⟩,ho⟩
theorem RInv.nodes (h:RInv w a n c sC hs o vC vN vO W) (hm:Moved (w.heap.size + 2) vN vN' W W') (hb:W'.heap[w.heap.size + 2]? = some (.cells #[.slice a n c,vN'] 95 (0,0))) (hn':∃ ncs,W'.ownsRow (w.heap.size + 1) 99 14 vN' hs'.length ncs ∧ HnRow w hs' ncs):RInv w a n c sC hs' o vC vN' vO W':=by
 obtain ⟨a1,a2,a3,a4,a5⟩:=h.ne
 have hsz:=h.size
 exact ⟨h.old.trans (hm.below (by omega) (by omega) (fun k hk=>by have:=(a2 k hk).1;omega)),Nat.le_trans h.size hm.size,h.chk.keep hm.size (hm.block _ (by omega) (by omega) (fun e=>by have:=(a2 _ e).1;omega)) (fun k h1 h2 hk=>hm.block k h2 (by omega) (fun e=>(a4 k hk).1 e)),
  hb,hn',own_block h.opn (fun k hk=>hm.block k (a3 k hk).2 (by have:=(a3 k hk).1;omega) (fun e=>a5 k e hk))⟩
theorem Moved.setOwnH {x g:Nat} {v v':Value} {w w':World} (h:Moved x v v' w w') (hv:v.ownBlock = some g) (i:Nat) (u:Value):Moved x v v' w (w'.setCell ⟨g,i,none⟩ u) :=
 ⟨h.os,h.tape,h.output,by simp [World.setCell];exact h.size,fun k h1 h2 h3=>(Below.heap_setCell _ _ _ _ (fun e=>h3 (by rw [hv];exact congrArg some e.symm))).trans (h.block k h1 h2 h3),h.own⟩
theorem RInv.turn {g l' cc:Nat} (h:RInv w a n c sC hs o vC (.slice (some ⟨g,0,none⟩) l' cc) vO W) (hl:hs.length = l') (k q:Nat) (hk:k < hs.length) (hq:q < 14) (f:HN → HN) (v:Value) (hev:∀ h,(f h).ev = h.ev)
  (hf:∀ (h:HN) A m c,hs[k]? = some h → hnL (f h) A m c = (hnL h A m c).set q v):RInv w a n c sC (hs.modify k f) o vC (.slice (some ⟨g,0,none⟩) l' cc) vO (W.setCell ⟨g,k * 14 + q,none⟩ v):=by
 obtain ⟨ncs,hn,hr⟩:=h.nds
 have hg:=h.ne.2.1 g rfl
 subst hl
 refine h.nodes ((Moved.of (Below.refl _ _)).setOwnH rfl _ _) ((Below.heap_setCell _ _ _ _ (show w.heap.size + 2 ≠ g by omega)).trans h.bg) ⟨ncs.set (k * 14 + q) v,?_,hr.turn (by have:=hn.1;omega) k q hk hq f v hev hf⟩
 rw [List.length_modify]
 exact (hn.stored (k * 14 + q) v).1
theorem RInv.pop {g l' cc:Nat} (h:RInv w a n c sC hs o vC vN (.slice (some ⟨g,0,none⟩) (l' + 1) cc) W) (hl:o.length = l' + 1):RInv w a n c sC hs o.dropLast vC vN (.slice (some ⟨g,0,none⟩) l' cc) W:=by
 refine h.opens ⟨rfl,rfl,rfl,Nat.le_refl _,fun _ _ _ _=>rfl,.inl rfl⟩ ?_
 have ho:=h.opn
 rw [hl] at ho
 have e:tsC (o.map fun (k:Nat)=>(k:Int)) = tsC (o.dropLast.map fun (k:Nat)=>(k:Int)) ++ [.int .i64 ((o.getLast (by intro h0;rw [h0] at hl;cases hl):Nat):Int)]:=by
  conv=>lhs;rw [← List.dropLast_concat_getLast (show o ≠ [] by intro h0;rw [h0] at hl;cases hl)]
  unfold tsC
  rw [List.map_append,List.map_append];rfl
 rw [e] at ho
 rw [List.length_dropLast,hl,Nat.add_sub_cancel]
 exact own_pop ho (by rw [tsC_len,List.length_map,List.length_dropLast,hl];omega)
end Go.Proofs.YtgjokdngbocehaaGreatDoor
namespace Go.Proofs.YtgjokdngbocehaaGreatDoor
open Go.RowKit
theorem RInv.start (w:World) (a:Option Addr) (n c:Nat) (W:World)
  (hW:W = ((((w.alloc (.cells #[.slice none 0 0,.int .i64 0,.bool false,.bool false] 105)).alloc (.cells #[.int .i64 0,.int .i64 0,.int .i64 0,.string ⟨#[]⟩,.slice none 0 0,.string ⟨#[]⟩,.int .i64 0,.int .i64 0,.int .i64 0,.int .i64 (-1),.bool true,.string ⟨#[]⟩,.int .i64 0,.int .i64 0] 99)).alloc (.cells #[.slice a n c,.slice (some ⟨w.heap.size + 1,0,none⟩) 1 1] 95)).alloc (.cells #[.int .i64 0] 3))) :
  RInv w a n c beg0 [hRoot] [0] (.slice none 0 0) (.slice (some ⟨w.heap.size + 1,0,none⟩) 1 1) (.slice (some ⟨w.heap.size + 3,0,none⟩) 1 1) W:=by
 obtain ⟨W1,h1⟩:∃ W1,W1 = w.alloc (.cells #[.slice none 0 0,.int .i64 0,.bool false,.bool false] 105):=⟨_,rfl⟩
 rw [← h1] at hW
 obtain ⟨W2,h2⟩:∃ W2,W2 = W1.alloc (.cells #[.int .i64 0,.int .i64 0,.int .i64 0,.string ⟨#[]⟩,.slice none 0 0,.string ⟨#[]⟩,.int .i64 0,.int .i64 0,.int .i64 0,.int .i64 (-1),.bool true,.string ⟨#[]⟩,.int .i64 0,.int .i64 0] 99):=⟨_,rfl⟩
 rw [← h2] at hW
 obtain ⟨W3,h3⟩:∃ W3,W3 = W2.alloc (.cells #[.slice a n c,.slice (some ⟨w.heap.size + 1,0,none⟩) 1 1] 95):=⟨_,rfl⟩
 rw [← h3] at hW
 have s1:W1.heap.size = w.heap.size + 1:=by rw [h1];simp
 have s2:W2.heap.size = w.heap.size + 2:=by rw [h2];simp [s1]
 have s3:W3.heap.size = w.heap.size + 3:=by rw [h3];simp [s2]
 have s4:W.heap.size = w.heap.size + 4:=by rw [hW];simp [s3]
 have b1:Below w.heap.size w W1:=by rw [h1];exact (Below.refl _ _).alloc (Nat.le_refl _) _
 have b2:Below W1.heap.size W1 W2:=by rw [h2];exact (Below.refl _ _).alloc (Nat.le_refl _) _
 have b3:Below W2.heap.size W2 W3:=by rw [h3];exact (Below.refl _ _).alloc (Nat.le_refl _) _
 have b4:Below W3.heap.size W3 W:=by rw [hW];exact (Below.refl _ _).alloc (Nat.le_refl _) _
 have b34:=b3.trans (b4.mono (by omega))
 have b24:=b2.trans (b34.mono (by omega))
 have k0:W.heap[w.heap.size]? = some (.cells #[.slice none 0 0,.int .i64 0,.bool false,.bool false] 105 (0,0)):=(b24.block _ (by omega)).trans (by rw [h1];exact heap_alloc_new w _)
 have k2:W.heap[w.heap.size + 2]? = some (.cells #[.slice a n c,.slice (some ⟨w.heap.size + 1,0,none⟩) 1 1] 95 (0,0)):=(b4.block _ (by omega)).trans (by rw [h3,← s2];exact heap_alloc_new W2 _)
 have o1:=World.ownsRow_lit (base:=w.heap.size + 1) (e:=99) (size:=14) W1 #[.int .i64 0,.int .i64 0,.int .i64 0,.string ⟨#[]⟩,.slice none 0 0,.string ⟨#[]⟩,.int .i64 0,.int .i64 0,.int .i64 0,.int .i64 (-1),.bool true,.string ⟨#[]⟩,.int .i64 0,.int .i64 0] 1 (by omega) (by unfold maxLen;omega) rfl
 have o3:=World.ownsRow_lit (base:=w.heap.size + 3) (e:=3) (size:=1) W3 #[.int .i64 0] 1 (by omega) (by unfold maxLen;omega) rfl
 rw [← h2,s1] at o1
 rw [← hW,s3] at o3
 refine ⟨b1.trans (b24.mono (by omega)),by omega,⟨by omega,by omega,k0,World.ownsRow_nil _ _ _ _,fun _=>rfl,by decide⟩,k2,⟨_,own_block o1 fun k hk=>b34.block k (o1.lt k hk).2,fun i h hi=>?_⟩,o3⟩
 obtain ⟨rfl,rfl⟩:i = 0 ∧ hRoot = h:=by
  cases i with
  | zero=>simp at hi;exact ⟨rfl,hi⟩
  | succ i=>simp at hi
 refine ⟨none,0,0,Nat.le_refl _,⟨rfl,fun i hi=>absurd hi (Nat.not_lt_zero _)⟩,fun j hj=>?_⟩
 rw [Nat.zero_mul,Nat.zero_add]
 rfl
end Go.Proofs.YtgjokdngbocehaaGreatDoor
namespace Go.Proofs.YtgjokdngbocehaaGreatDoor
open Go.RowKit
variable {w W W2:World} {a:Option Addr} {n c:Nat} {sC:BegS} {hs:List HN} {o:List Nat} {vC vN vN' vO vO':Value}
theorem own_neB {w:World} {B n size j:Nat} {e e':TypeId} {v:Value} {xs:List Value} {cs:Array Value} {fz:Nat × Nat} (h:w.ownsRow B e size v n xs) (hb:w.heap[j]? = some (.cells cs e' fz)) (he:e ≠ e'):v.ownBlock ≠ some j:=by
 intro hk
 rcases h.2 with ⟨rfl,_⟩ | ⟨g,cap,cur,rfl,_,hg,_⟩
 ·cases hk
 ·cases hk
  rw [hg] at hb
  cases hb
  exact he rfl
theorem RInv.push {H:HN} {A:Option Addr} {m c':Nat} {ncs:List Value} (h:RInv w a n c sC hs o vC vN vO W) (hr:HnRow w hs ncs) (hl:ncs.length = hs.length * 14) (h1:m ≤ c') (h2:AttrsAt w A m H.ev.ats) (hap:App W W2 vN vN')
  (hown:W2.ownsRow (w.heap.size + 1) 99 14 vN' (hs.length + 1) (ncs ++ hnL H A m c')):RInv w a n c sC (hs ++ [H]) o vC vN' vO (W2.setCell ⟨w.heap.size + 2,1,none⟩ vN'):=by
 have hsz:=h.size
 have hbg:W2.heap[w.heap.size + 2]? = some (.cells #[.slice a n c,vN] 95 (0,0)):=(hap.keep (k:=w.heap.size + 2) (by omega) (fun e=>(h.ne.2.1 _ e).2.2 rfl)).trans h.bg
 have hkeep:∀ k,vN'.ownBlock = some k → (W2.setCell ⟨w.heap.size + 2,1,none⟩ vN').heap[k]? = W2.heap[k]?:=fun k hk=>Below.heap_setCell _ _ _ _ fun e=>own_neB hown hbg (by decide) (by rw [hk,e])
 exact h.nodes ((Moved.app hap).set _ _) (setCell_heap hbg _) ⟨_,by rw [List.length_append];exact own_block hown hkeep,hr.push hl H A m c' h1 h2⟩
theorem RInv.open1 {nl ol:Nat} (h:RInv w a n c sC hs o vC vN vO W) (hol:o.length = ol) (hap:App W W2 vO vO') (hown:W2.ownsRow (w.heap.size + 3) 3 1 vO' (ol + 1) (tsC (o.map fun (k:Nat)=>(k:Int)) ++ [.int .i64 (nl:Int)])):RInv w a n c sC hs (o ++ [nl]) vC vN vO' W2:=by
 refine h.opens (Moved.app hap) ?_
 rw [List.length_append,hol,List.length_singleton,List.map_append]
 unfold tsC at hown ⊢
 rw [List.map_append]
 exact hown
theorem RInv.addT {g l' cc:Nat} (h:RInv w a n c sC hs o vC (.slice (some ⟨g,0,none⟩) l' cc) vO W) (hl:hs.length = l') (k:Nat) (hk:k < hs.length) (t:List UInt8):RInv w a n c sC (hs.modify k (addT t)) o vC (.slice (some ⟨g,0,none⟩) l' cc) vO (W.setCell ⟨g,k * 14 + 11,none⟩ (.string (strL (hs[k].txt ++ t)))) :=
 h.turn hl k 11 hk (by decide) (Go.Proofs.YtgjokdngbocehaaGreatDoor.addT t) _ (fun _=>rfl) fun y A m c hy=>by
  rw [List.getElem?_eq_getElem hk] at hy
  cases hy
  exact hn_txt t _ A m c
theorem RInv.nodeAt {g l' cc:Nat} (h:RInv w a n c sC hs o vC (.slice (some ⟨g,0,none⟩) l' cc) vO W) (hl:hs.length = l') (k:Nat) (hk:k < hs.length):∃ (A:Option Addr) (m c:Nat),m ≤ c ∧ AttrsAt w A m hs[k].ev.ats ∧ ∀ j,j < 14 → W.cell? ⟨g,k * 14 + j,none⟩ = (hnL hs[k] A m c)[j]?:=by
 obtain ⟨ncs,hn,hr⟩:=h.nds
 subst hl
 obtain ⟨A,m,c,h1,h2,h3⟩:=hr k hs[k] (List.getElem?_eq_getElem hk)
 exact ⟨A,m,c,h1,h2,fun j hj=>by rw [hn.cellAt (k * 14 + j) (by omega)];exact h3 j hj⟩
theorem RInv.txtAt {g l' cc:Nat} (h:RInv w a n c sC hs o vC (.slice (some ⟨g,0,none⟩) l' cc) vO W) (hl:hs.length = l') (k:Nat) (hk:k < hs.length):W.cell? ⟨g,k * 14 + 11,none⟩ = some (.string (strL hs[k].txt)) ∧ W.frozen? ⟨g,k * 14 + 11,none⟩ = false:=by
 obtain ⟨A,m,c,_,_,h3⟩:=h.nodeAt hl k hk
 obtain ⟨ncs,hn,_⟩:=h.nds
 subst hl
 exact ⟨(h3 11 (by decide)).trans (by rw [hnL_eq];rfl),hn.frozenAt _⟩
theorem RInv.slice (h:RInv w a n c sC hs o vC vN vO W) (hp:1 ≤ hs.length):∃ g cc,vN = .slice (some ⟨g,0,none⟩) hs.length cc ∧ g < W.heap.size:=by
 obtain ⟨ncs,hn,_⟩:=h.nds
 obtain ⟨oa,na,rfl,hna,hoa0,hoas⟩:=own_slice hn
 cases oa with
 | none=>have:=hoa0 rfl;omega
 | some ad=>obtain ⟨g,rfl,_⟩:=hoas ad rfl;exact ⟨g,na,rfl,(hn.lt g rfl).2⟩
theorem RInv.hat (h:RInv w a n c sC hs o vC vN vO W) (hp:1 ≤ hs.length) (hc:hs.length ≤ 1048577) (hpar:∀ (i:Nat) (h:HN),hs[i]? = some h → 1 ≤ i → 0 ≤ h.par ∧ h.par < (i:Int))
  (htx:∀ h ∈ hs,h.txt.length ≤ 1048576) (hat:∀ h ∈ hs,h.ev.ats.length ≤ 1048576 ∧ ∀ p ∈ h.ev.ats,p.2.length ≤ 1048576):HAt W (w.heap.size + 2) hs:=by
 obtain ⟨g,cc,rfl,hg⟩:=h.slice hp
 have hsz:=h.size
 refine ⟨by omega,hp,hc,hpar,some ⟨g,0,none⟩,cc,by rw [cell_heap h.bg];rfl,fun i hi=>?_⟩
 obtain ⟨A,m,c1,h1,h2,h3⟩:=h.nodeAt rfl i hi
 have hm:=hat _ (List.getElem_mem hi)
 exact ⟨g,0,A,m,c1,rfl,hg,h1,by rw [h2.1];exact hm.1,h2.below h.old,hm.2,htx _ (List.getElem_mem hi),fun j hj=>by rw [Nat.zero_add];exact h3 j hj⟩
theorem hAll_open (N:Nat) (evs:List Ev) (k:Nat) (h:k < evs.length) (h0:evs[k].kind = 0):hAll N evs (k + 1) = ((hAll N evs k).1 ++ [⟨evs[k],1,topH (hAll N evs k).2,true,[],k,N⟩],(hAll N evs k).2 ++ [(hAll N evs k).1.length]):=by
 rw [hAll_succ N evs k h]
 unfold hNext
 rw [if_pos h0]
def txK (t:List UInt8) (o:List Nat) (hs:List HN) (j:Nat):List HN:=(o.take j).foldl (fun l k=>l.modify k (addT t)) hs
theorem txK_zero (t:List UInt8) (o:List Nat) (hs:List HN):txK t o hs 0 = hs:=by unfold txK;rw [List.take_zero];rfl
theorem txK_succ (t:List UInt8) (o:List Nat) (hs:List HN) (j:Nat) (h:j < o.length):txK t o hs (j + 1) = (txK t o hs j).modify o[j] (addT t):=by
 unfold txK;rw [List.take_succ_eq_append_getElem h,List.foldl_append];rfl
theorem txK_len (t:List UInt8) (o:List Nat) (hs:List HN) (j:Nat):(txK t o hs j).length = hs.length:=foldl_modify_len _ _ _
theorem hAll_text (N:Nat) (evs:List Ev) (k:Nat) (h:k < evs.length) (h1:evs[k].kind = 1):hAll N evs (k + 1) = (txK evs[k].text (hAll N evs k).2 ((hAll N evs k).1 ++ [⟨evs[k],2,topH (hAll N evs k).2,false,evs[k].text,k,k + 1⟩]) (hAll N evs k).2.length,(hAll N evs k).2):=by
 rw [hAll_succ N evs k h]
 unfold hNext txK
 rw [if_neg (by omega),if_pos h1,List.take_length]
end Go.Proofs.YtgjokdngbocehaaGreatDoor
namespace Go.Proofs.YtgjokdngbocehaaGreatDoor
open Go.RowKit
theorem info_rune3:(Tryz.prog.info? 21).map (fun i=>(i.zero,i.size,i.bytes)) = some (some (.int .i32 0),1,4):=by kernel_rfl
theorem order_any (a b:Int) (w:World) :
  Calls Tryz.prog 114 #[.int .i64 a,.int .i64 b] w fun e w'=>e = .returned (.int .i64 (if a < b then -1 else if b < a then 1 else 0)) ∧ w' = w:=by
 by_cases h1:a < b
 ·rw [if_pos h1]
  go_enter Tryz.func114,Tryz.ntmps114
  go_wp2
  go_ret
  exact ⟨rfl,rfl⟩
 ·rw [if_neg h1]
  have h1':b ≤ a:=by omega
  by_cases h2:b < a
  ·rw [if_pos h2]
   go_enter Tryz.func114,Tryz.ntmps114
   go_wp2
   go_ret
   exact ⟨rfl,rfl⟩
  ·rw [if_neg h2]
   have h2':a ≤ b:=by omega
   go_enter Tryz.func114,Tryz.ntmps114
   go_wp2
   go_ret
   exact ⟨rfl,rfl⟩
set_option maxHeartbeats 1000000 in
set_option maxRecDepth 100000 in
theorem Runes3_any (s:ByteArray) (w:World) (hs:s.size ≤ 1048576) :
  Calls Tryz.prog 113 #[.string s] w fun e w'=>RetSl e w' ((runesOf s).map (Value.int .i32)) ∧ Below w.heap.size w w':=by
 obtain ⟨i0,hi,hz0,hz1,hz2⟩:=info_parts info_rune3
 go_enter Tryz.func113,Tryz.ntmps113
 go_wp2_with fail
 go_loopw [3] (fun v wr=>∃ (pos n:Nat) (l:List Int),wr.heap[w.heap.size]? = some (.stringIter s pos) ∧ Below w.heap.size w wr ∧ wr.ownsRow (w.heap.size + 1) 21 1 v n (l.map (Value.int .i32)) ∧ Hid (v.ownBlock ≠ some w.heap.size) ∧ Hid (l ++ runesAt s pos = runesOf s) ∧ Hid (l.length = n)) (fun _ wr=>s.size - wr.iterPos w.heap.size)
 case atStart =>
  refine ⟨0,0,[],World.iter_heap _ _ _,(Below.refl _ _).alloc (Nat.le_refl _) _,⟨rfl,.inl ⟨rfl,rfl⟩⟩,Lib.hid (by simp [Value.ownBlock]),?_,rfl⟩
  show _ = _;rw [runesAt_zero];rfl
 case round =>
  obtain ⟨pos,n,l,hit,hbw,hown,HNE,hr,hln⟩:=hrel
  have hsz:w.heap.size < wr.heap.size:=(Array.getElem?_eq_some_iff.1 hit).1
  by_cases hp:pos < s.size
  ·have hnx:∀ ty,(Instr.next (.pointer (some ⟨w.heap.size,0,none⟩)) true ty).run Tryz.prog wr = _:=fun ty=>Lib.run_next_any_at wr w.heap.size s pos ty hit hp
   have hwd:=width_pos s pos hp
   have hst:=hr.out
   have hll:=hln.out
   rw [runesAt_step s pos hp] at hst
   have hnb:n + 1 ≤ s.size:=by
    have h1:=runesOf_length s
    rw [← hst] at h1
    simp at h1
    omega
   have HST:=Lib.hid hst
   have HIT:=Lib.hid hit
   clear hst hll
   generalize hw2:wr.iterAt w.heap.size s (pos + (Utf8.decode s pos).2) = w2 at hnx
   have hit2:w2.heap[w.heap.size]? = some (.stringIter s (pos + (Utf8.decode s pos).2)):=by rw [← hw2];exact Lib.iterAt_heap wr w.heap.size s pos _ hit
   have hbw2:Below w.heap.size w w2:=by rw [← hw2];exact Lib.below_iterAt hbw (by omega) s _
   have hown2:=own_block (w':=w2) hown (fun k hk=>by rw [← hw2];exact Lib.iterAt_other wr w.heap.size k s _ (fun e=>HNE.out (by rw [hk,e])))
   have hsz2:w2.heap.size = wr.heap.size:=by rw [← hw2,Lib.iterAt_size]
   clear hw2 hit hbw hown
   have hsz3:w.heap.size < w2.heap.size:=by omega
   have hsz4:w.heap.size + 1 ≤ w2.heap.size:=by omega
   clear hsz2
   go_wp2_with (at_builtin;refine wpList_app w2 rfl _ _ 187 (by rfl) (w.heap.size + 1) 21 i0 (.int .i32 0) 1 4 Tryz.underlying187 hi hz0 hz1 hz2 rfl (by decide) _ n _ (by rfl) hown2 _ rfl 1 [.int .i32 (Utf8.decode s pos).1] (by rfl) rfl (by simp [Value.oneCell']) (by omega) (by decide) hsz4 (fun v3 w3 hown3 happ3=>?_))
   have hbl:=hown2.lt
   have hk3:=happ3.keep (k:=w.heap.size) (by simp;omega) HNE.out
   have hn3:=happ3.ne (k:=w.heap.size) (by simp;omega) HNE.out
   have hb3:=(hbw2.alloc (by omega) (.cells #[.int .i32 (Utf8.decode s pos).1] 21)).trans (happ3.below (by simp;omega) (fun k hk=>by have:=(hbl k hk).1;omega))
   go_roundw
   case rel =>
    refine ⟨pos + (Utf8.decode s pos).2,n + 1,l ++ [((Utf8.decode s pos).1:Int)],?_,hb3,by simpa using hown3,hn3,?_,?_⟩
    ·rw [hk3,Below.heap_alloc _ _ _ (by omega)];exact hit2
    ·show _ = _;rw [← HST.out];simp
    ·show _ = _;rw [← hln.out];simp
   case measure =>
    have e1:w3.iterPos w.heap.size = pos + (Utf8.decode s pos).2:=by
     unfold World.iterPos;rw [hk3,Below.heap_alloc _ _ _ (by omega),hit2]
    have e2:wr.iterPos w.heap.size = pos:=by unfold World.iterPos;rw [HIT.out]
    rw [e1,e2]
    omega
  ·have hnx:∀ ty,(Instr.next (.pointer (some ⟨w.heap.size,0,none⟩)) true ty).run Tryz.prog wr = _:=fun ty=>Lib.run_next_end_at wr w.heap.size s pos ty hit hp
   have hst:=hr.out
   rw [runesAt_end s pos hp,List.append_nil] at hst
   subst hst
   go_wp2
   go_ret
   obtain ⟨a,c,rfl,hsl⟩:=own_sl hown
   exact ⟨⟨a,n,c,rfl,hsl⟩,hbw⟩
set_option maxHeartbeats 1000000 in
set_option maxRecDepth 100000 in
theorem Cmp3_any (s t:ByteArray) (w:World) (hs:s.size ≤ 1048576) (ht:t.size ≤ 1048576) :
  Calls Tryz.prog 86 #[.string s,.string t] w fun e w'=>e = .returned (.int .i64 (cmpL (runesOf s) (runesOf t))) ∧ Below w.heap.size w w':=by
 have HS:=Lib.hid (fun W=>Runes3_any s W hs)
 have HT:=Lib.hid (fun W=>Runes3_any t W ht)
 have hls:=runesOf_length s
 generalize runesOf s = xs at *
 generalize runesOf t = ys at *
 go_enter Tryz.func86,Tryz.ntmps86
 go_wp2_with fail
 (with_reducible refine (HS.out _).mono ?_)
 rintro e w1 ⟨⟨a0,n0,c0,rfl,h0⟩,b1⟩
 go_wp2_with fail
 (with_reducible refine (HT.out _).mono ?_)
 rintro e w2 ⟨⟨a1,n1,c1,rfl,h1⟩,b2⟩
 have H0:=Lib.hid (h0.below b2)
 have H1:=Lib.hid h1
 have hb:=Below.tr b1 b2
 have HX:Hid (n0 = xs.length):=Lib.hid (by have:=h0.len;simpa using this)
 have HY:Hid (n1 = ys.length):=Lib.hid (by have:=h1.len;simpa using this)
 have hm0:n0 ≤ 1048576:=by have:=HX.out;omega
 clear h0 h1 b1 b2 hls
 go_wp2_with fail
 go_loopw [7] (fun i w'=>∃ k:Nat,k ≤ n0 ∧ k ≤ n1 ∧ i = .int .i64 k ∧ (∃ n,w' = w2.drewN n) ∧ Hid (cmpL (xs.drop k) (ys.drop k) = cmpL xs ys)) (fun i _=>n0 - (intOf i).toNat)
 case atStart=>exact ⟨0,Nat.zero_le _,Nat.zero_le _,rfl,⟨0,rfl⟩,rfl⟩
 case round =>
  obtain ⟨k,hk0,hk1,rfl,⟨n,rfl⟩,hr⟩:=hrel
  by_cases hlt:k < n0 ∧ k < n1
  ·obtain ⟨hl0,hl1⟩:=hlt
   have l0:k < xs.length:=by rw [← HX.out];exact hl0
   have l1:k < ys.length:=by rw [← HY.out];exact hl1
   obtain ⟨b0,o0,rfl,_,e0⟩:=H0.out.cell k (by simpa using l0)
   obtain ⟨b1,o1,rfl,_,e1⟩:=H1.out.cell k (by simpa using l1)
   simp only [List.getElem_map] at e0 e1
   have hd:=cmpL_drop xs ys k l0 l1
   rw [hr.out] at hd
   generalize xs[k] = x at e0 hd
   generalize ys[k] = y at e1 hd
   have HD:=Lib.hid hd
   clear hd l0 l1
   have hd0:decide ((k:Int) < n0) = true:=by simp;omega
   have hd1:decide ((k:Int) < n1) = true:=by simp;omega
   go_wp2_with (go_quiet (fail))
   ·have hlt:x < y:=by assumption
    go_ret
    exact ⟨ret_int (by rw [HD.out,if_pos hlt]),by simp only [World.drewN_drewN];exact Below.drewN hb _⟩
   ·have hlt:y < x:=by assumption
    go_ret
    exact ⟨ret_int (by rw [HD.out,if_neg (by omega),if_pos hlt]),by simp only [World.drewN_drewN];exact Below.drewN hb _⟩
   ·go_roundw
    case rel=>exact ⟨k + 1,by omega,by omega,by go_num,⟨_,rfl⟩,by rw [HD.out,if_neg (by omega),if_neg (by omega)];rfl⟩
    case measure=>simp [intOf];omega
  ·have hd:=cmpL_end xs ys k (by rw [← HX.out,← HY.out];exact hlt) (by rw [← HX.out];exact hk0) (by rw [← HY.out];exact hk1)
   rw [hr.out,← HX.out,← HY.out] at hd
   have HD:=Lib.hid hd
   have HOR:=Lib.hid (order_any n0 n1)
   have hci:(if (n0:Int) < (n1:Int) then (-1:Int) else if (n1:Int) < (n0:Int) then 1 else 0) = cmpL xs ys:=by
    rw [HD.out]
    by_cases q1:n0 < n1
    ·rw [if_pos (show (n0:Int) < (n1:Int) by omega),if_pos q1]
    ·rw [if_neg (show ¬ (n0:Int) < (n1:Int) by omega),if_neg q1]
     by_cases q2:n1 < n0
     ·rw [if_pos (show (n1:Int) < (n0:Int) by omega),if_pos q2]
     ·rw [if_neg (show ¬ (n1:Int) < (n0:Int) by omega),if_neg q2]
   rw [hci] at HOR
   clear hd hci hr
   have hb2:=Below.drewN hb n
   by_cases q0:k < n0
   ·have q1:n1 ≤ k:=by omega
    go_wp2_with fail
    (with_reducible refine (HOR.out _).mono ?_)
    rintro e w3 ⟨rfl,rfl⟩
    go_wp2_with fail
    go_ret
    exact ⟨rfl,hb2⟩
   ·have q1:n0 ≤ k:=by omega
    go_wp2_with fail
    (with_reducible refine (HOR.out _).mono ?_)
    rintro e w3 ⟨rfl,rfl⟩
    go_wp2_with fail
    go_ret
    exact ⟨rfl,hb2⟩
end Go.Proofs.YtgjokdngbocehaaGreatDoor
