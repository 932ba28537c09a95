/-
  half.read: the nodes' cells in the making.
-/
import Derived.Test.YtgjokdngbocehaaGreatDoorHsA
import Derived.Test.YtgjokdngbocehaaGreatDoorHsD
import Derived.Test.YtgjokdngbocehaaGreatDoorHsE
import Derived.Test.YtgjokdngbocehaaGreatDoorHsN
import Derived.Test.YtgjokdngbocehaaGreatDoorHsR
import Derived.Test.YtgjokdngbocehaaGreatDoorHsS
namespace Go.Proofs.YtgjokdngbocehaaGreatDoor
open Go.RowKit
def HnRow (w:World) (hs:List HN) (ncs:List Value):Prop :=
 ∀ i h,hs[i]? = some h → ∃ (A:Option Addr) (m c:Nat),m ≤ c ∧ AttrsAt w A m h.ev.ats ∧ ∀ j,j < 14 → ncs[i * 14 + j]? = (hnL h A m c)[j]?
theorem HnRow.push {w:World} {hs:List HN} {ncs:List Value} (H:HnRow w hs ncs) (hl:ncs.length = hs.length * 14) (h:HN) (A:Option Addr) (m c:Nat) (h1:m ≤ c) (h2:AttrsAt w A m h.ev.ats):HnRow w (hs ++ [h]) (ncs ++ hnL h A m c):=by
 intro i y hy
 rcases snoc_get hy with ⟨hi,hy⟩ | ⟨hi,rfl⟩
 ·obtain ⟨A',m',c',g1,g2,g3⟩:=H i y hy
  exact ⟨A',m',c',g1,g2,fun j hj=>by rw [List.getElem?_append_left (by omega)];exact g3 j hj⟩
 ·exact ⟨A,m,c,h1,h2,fun j hj=>by rw [List.getElem?_append_right (by omega),show i * 14 + j - ncs.length = j by omega]⟩
theorem HnRow.turn {w:World} {hs:List HN} {ncs:List Value} (H:HnRow w hs ncs) (hl:ncs.length = hs.length * 14) (k q:Nat) (hk:k < hs.length) (hq:q < 14) (f:HN → HN) (v:Value) (hev:∀ h,(f h).ev = h.ev)
  (hf:∀ (h:HN) A m c,hs[k]? = some h → hnL (f h) A m c = (hnL h A m c).set q v):HnRow w (hs.modify k f) (ncs.set (k * 14 + q) v):=by
 intro i y hy
 rw [List.getElem?_modify] at hy
 cases hx:hs[i]? with
 | none=>rw [hx] at hy;simp at hy
 | some x =>
  rw [hx] at hy
  obtain ⟨A,m,c,g1,g2,g3⟩:=H i x hx
  by_cases hik:k = i
  ·subst hik
   simp at hy
   subst hy
   refine ⟨A,m,c,g1,by rw [hev];exact g2,fun j hj=>?_⟩
   rw [hf x A m c hx,List.getElem?_set,List.getElem?_set,hnL_length]
   by_cases e:q = j
   ·subst e;rw [if_pos rfl,if_pos rfl,if_pos hq,if_pos (by omega)]
   ·rw [if_neg (by omega),if_neg e];exact g3 j hj
  ·simp [hik] at hy
   subst hy
   refine ⟨A,m,c,g1,g2,fun j hj=>?_⟩
   rw [List.getElem?_set,if_neg (by omega)]
   exact g3 j hj
theorem hn_txt (t:List UInt8) (h:HN) (A:Option Addr) (m c:Nat):hnL (addT t h) A m c = (hnL h A m c).set 11 (.string (strL (h.txt ++ t))):=rfl
theorem hn_open (b:Bool) (h:HN) (A:Option Addr) (m c:Nat):hnL { h with op:=b } A m c = (hnL h A m c).set 10 (.bool b):=rfl
theorem hn_end (e:Nat) (h:HN) (A:Option Addr) (m c:Nat):hnL { h with en:=e } A m c = (hnL h A m c).set 13 (.int .i64 e):=rfl
theorem hnL_one (h:HN) (A:Option Addr) (m c:Nat):∀ u ∈ hnL h A m c,u.oneCell' = true:=by
 intro u hu
 rw [hnL_eq] at hu
 simp only [List.mem_cons,List.not_mem_nil,or_false] at hu
 rcases hu with rfl | rfl | rfl | rfl | rfl | rfl | rfl | rfl | rfl | rfl | rfl | rfl | rfl | rfl <;> rfl
end Go.Proofs.YtgjokdngbocehaaGreatDoor
namespace Go.Proofs.YtgjokdngbocehaaGreatDoor
open Go.RowKit
theorem own_neH {w:World} {B B' n n' size size':Nat} {e e':TypeId} {v v':Value} {xs xs':List Value} (h:w.ownsRow B e size v n xs) (h':w.ownsRow B' e' size' v' n' xs') (he:e ≠ e'):∀ k,v.ownBlock = some k → v'.ownBlock ≠ some k:=by
 intro k hk hk'
 rcases h.2 with ⟨rfl,_⟩ | ⟨g,cap,cur,rfl,_,hg,_⟩
 ·cases hk
 ·cases hk
  rcases h'.2 with ⟨rfl,_⟩ | ⟨g',cap',cur',rfl,_,hg',_⟩
  ·cases hk'
  ·cases hk'
   rw [hg] at hg'
   cases hg'
   exact he rfl
structure RInv (w:World) (a:Option Addr) (n c:Nat) (sC:BegS) (hs:List HN) (o:List Nat) (vC vN vO:Value) (W:World):Prop where
 old:Below w.heap.size w W
 size:w.heap.size + 4 ≤ W.heap.size
 chk:Chk W (w.heap.size + 4) w.heap.size vC sC
 bg:W.heap[w.heap.size + 2]? = some (.cells #[.slice a n c,vN] 95 (0,0))
 nds:∃ ncs,W.ownsRow (w.heap.size + 1) 99 14 vN hs.length ncs ∧ HnRow w hs ncs
 opn:W.ownsRow (w.heap.size + 3) 3 1 vO o.length (tsC (o.map fun (k:Nat)=>(k:Int)))
variable {w W W':World} {a:Option Addr} {n c:Nat} {sC sC':BegS} {hs hs':List HN} {o o':List Nat} {vC vC' vN vN' vO vO':Value}
theorem RInv.ne (h:RInv w a n c sC hs o vC vN vO W) :
  (∀ k,vC.ownBlock = some k → w.heap.size + 4 ≤ k ∧ k < W.heap.size) ∧ (∀ k,vN.ownBlock = some k → w.heap.size + 1 ≤ k ∧ k < W.heap.size ∧ k ≠ w.heap.size + 2) ∧ (∀ k,vO.ownBlock = some k → w.heap.size + 3 ≤ k ∧ k < W.heap.size) ∧
  (∀ k,vC.ownBlock = some k → vN.ownBlock ≠ some k ∧ vO.ownBlock ≠ some k) ∧ (∀ k,vN.ownBlock = some k → vO.ownBlock ≠ some k):=by
 obtain ⟨ncs,hn,_⟩:=h.nds
 refine ⟨fun k hk=>h.chk.own.lt k hk,fun k hk=>⟨(hn.lt k hk).1,(hn.lt k hk).2,fun e=>?_⟩,fun k hk=>h.opn.lt k hk,fun k hk=>⟨own_neH h.chk.own hn (by decide) k hk,own_neH h.chk.own h.opn (by decide) k hk⟩,fun k hk=>own_neH hn h.opn (by decide) k hk⟩
 rcases hn.2 with ⟨rfl,_⟩ | ⟨g,cap,cur,rfl,_,hg,_⟩
 ·cases hk
 ·cases hk
  have hb:=h.bg
  rw [← e,hg] at hb
  have h2:=Option.some.inj hb
  injection h2 with _ h3 _
  exact absurd h3 (by decide)
theorem RInv.below (h:RInv w a n c sC hs o vC vN vO W) (hb:Below W.heap.size W W'):RInv w a n c sC hs o vC vN vO W':=by
 obtain ⟨a1,a2,a3,_,_⟩:=h.ne
 obtain ⟨ncs,hn,hr⟩:=h.nds
 exact ⟨h.old.trans (hb.mono h.old.size),Nat.le_trans h.size hb.size,h.chk.below hb,(hb.block _ (by have:=h.size;omega)).trans h.bg,⟨ncs,own_block hn (fun k hk=>hb.block k (a2 k hk).2.1),hr⟩,own_block h.opn (fun k hk=>hb.block k (a3 k hk).2)⟩
theorem RInv.take (h:RInv w a n c sC hs o vC vN vO W) (hm:Moved w.heap.size vC vC' W W') (hc:Chk W' (w.heap.size + 4) w.heap.size vC' sC'):RInv w a n c sC' hs o vC' vN vO W':=by
 obtain ⟨a1,a2,a3,a4,_⟩:=h.ne
 obtain ⟨ncs,hn,hr⟩:=h.nds
 have hsz:=h.size
 exact ⟨h.old.trans (hm.below (Nat.le_refl _) (by omega) (fun k hk=>by have:=(a1 k hk).1;omega)),Nat.le_trans h.size hm.size,hc,(hm.block _ (by omega) (by omega) (fun e=>by have:=(a1 _ e).1;omega)).trans h.bg,
  ⟨ncs,own_block hn (fun k hk=>hm.block k (a2 k hk).2.1 (by have:=(a2 k hk).1;omega) (fun e=>(a4 k e).1 hk)),hr⟩,own_block h.opn (fun k hk=>hm.block k (a3 k hk).2 (by have:=(a3 k hk).1;omega) (fun e=>(a4 k e).2 hk))⟩
theorem RInv.opens (h:RInv w a n c sC hs o vC vN vO W) (hm:Moved W.heap.size vO vO' W W') (ho:W'.ownsRow (w.heap.size + 3) 3 1 vO' o'.length (tsC (o'.map fun (k:Nat)=>(k:Int)))):RInv w a n c sC hs o' vC vN vO' W':=by
 obtain ⟨a1,a2,a3,a4,a5⟩:=h.ne
 obtain ⟨ncs,hn,hr⟩:=h.nds
 have hsz:=h.size
 exact ⟨h.old.trans (hm.below (by omega) (by omega) (fun k hk=>by have:=(a3 k hk).1;omega)),Nat.le_trans h.size hm.size,h.chk.keep hm.size (hm.block _ (by omega) (by omega) (fun e=>by have:=(a3 _ e).1;omega)) (fun k _ h2 hk=>hm.block k h2 (by omega) (fun e=>(a4 k hk).2 e)),
  (hm.block _ (by omega) (by omega) (fun e=>by have:=(a3 _ e).1;omega)).trans h.bg,⟨ncs,own_block hn (fun k hk=>hm.block k (a2 k hk).2.1 (by have:=(a2 k hk).2.1;omega) (fun e=>a5 k hk e)),hr⟩,ho⟩
theorem RInv.nodes (h:RInv w a n c sC hs o vC vN vO W) (hm:Moved (w.heap.size + 2) vN vN' W W') (hb:W'.heap[w.heap.size + 2]? = some (.cells #[.slice a n c,vN'] 95 (0,0))) (hn':∃ ncs,W'.ownsRow (w.heap.size + 1) 99 14 vN' hs'.length ncs ∧ HnRow w hs' ncs):RInv w a n c sC hs' o vC vN' vO W':=by
 obtain ⟨a1,a2,a3,a4,a5⟩:=h.ne
 have hsz:=h.size
 exact ⟨h.old.trans (hm.below (by omega) (by omega) (fun k hk=>by have:=(a2 k hk).1;omega)),Nat.le_trans h.size hm.size,h.chk.keep hm.size (hm.block _ (by omega) (by omega) (fun e=>by have:=(a2 _ e).1;omega)) (fun k h1 h2 hk=>hm.block k h2 (by omega) (fun e=>(a4 k hk).1 e)),
  hb,hn',own_block h.opn (fun k hk=>hm.block k (a3 k hk).2 (by have:=(a3 k hk).1;omega) (fun e=>a5 k e hk))⟩
theorem Moved.setOwnH {x g:Nat} {v v':Value} {w w':World} (h:Moved x v v' w w') (hv:v.ownBlock = some g) (i:Nat) (u:Value):Moved x v v' w (w'.setCell ⟨g,i,none⟩ u) :=
 ⟨h.os,h.tape,h.output,by simp [World.setCell];exact h.size,fun k h1 h2 h3=>(Below.heap_setCell _ _ _ _ (fun e=>h3 (by rw [hv];exact congrArg some e.symm))).trans (h.block k h1 h2 h3),h.own⟩
theorem RInv.turn {g l' cc:Nat} (h:RInv w a n c sC hs o vC (.slice (some ⟨g,0,none⟩) l' cc) vO W) (hl:hs.length = l') (k q:Nat) (hk:k < hs.length) (hq:q < 14) (f:HN → HN) (v:Value) (hev:∀ h,(f h).ev = h.ev)
  (hf:∀ (h:HN) A m c,hs[k]? = some h → hnL (f h) A m c = (hnL h A m c).set q v):RInv w a n c sC (hs.modify k f) o vC (.slice (some ⟨g,0,none⟩) l' cc) vO (W.setCell ⟨g,k * 14 + q,none⟩ v):=by
 obtain ⟨ncs,hn,hr⟩:=h.nds
 have hg:=h.ne.2.1 g rfl
 subst hl
 refine h.nodes ((Moved.of (Below.refl _ _)).setOwnH rfl _ _) ((Below.heap_setCell _ _ _ _ (show w.heap.size + 2 ≠ g by omega)).trans h.bg) ⟨ncs.set (k * 14 + q) v,?_,hr.turn (by have:=hn.1;omega) k q hk hq f v hev hf⟩
 rw [List.length_modify]
 exact (hn.stored (k * 14 + q) v).1
theorem RInv.pop {g l' cc:Nat} (h:RInv w a n c sC hs o vC vN (.slice (some ⟨g,0,none⟩) (l' + 1) cc) W) (hl:o.length = l' + 1):RInv w a n c sC hs o.dropLast vC vN (.slice (some ⟨g,0,none⟩) l' cc) W:=by
 refine h.opens ⟨rfl,rfl,rfl,Nat.le_refl _,fun _ _ _ _=>rfl,.inl rfl⟩ ?_
 have ho:=h.opn
 rw [hl] at ho
 have e:tsC (o.map fun (k:Nat)=>(k:Int)) = tsC (o.dropLast.map fun (k:Nat)=>(k:Int)) ++ [.int .i64 ((o.getLast (by intro h0;rw [h0] at hl;cases hl):Nat):Int)]:=by
  conv=>lhs;rw [← List.dropLast_concat_getLast (show o ≠ [] by intro h0;rw [h0] at hl;cases hl)]
  unfold tsC
  rw [List.map_append,List.map_append];rfl
 rw [e] at ho
 rw [List.length_dropLast,hl,Nat.add_sub_cancel]
 exact own_pop ho (by rw [tsC_len,List.length_map,List.length_dropLast,hl];omega)
end Go.Proofs.YtgjokdngbocehaaGreatDoor
namespace Go.Proofs.YtgjokdngbocehaaGreatDoor
open Go.RowKit
theorem RInv.start (w:World) (a:Option Addr) (n c:Nat) (W:World)
  (hW:W = ((((w.alloc (.cells #[.slice none 0 0,.int .i64 0,.bool false,.bool false] 105)).alloc (.cells #[.int .i64 0,.int .i64 0,.int .i64 0,.string ⟨#[]⟩,.slice none 0 0,.string ⟨#[]⟩,.int .i64 0,.int .i64 0,.int .i64 0,.int .i64 (-1),.bool true,.string ⟨#[]⟩,.int .i64 0,.int .i64 0] 99)).alloc (.cells #[.slice a n c,.slice (some ⟨w.heap.size + 1,0,none⟩) 1 1] 95)).alloc (.cells #[.int .i64 0] 3))) :
  RInv w a n c beg0 [hRoot] [0] (.slice none 0 0) (.slice (some ⟨w.heap.size + 1,0,none⟩) 1 1) (.slice (some ⟨w.heap.size + 3,0,none⟩) 1 1) W:=by
 obtain ⟨W1,h1⟩:∃ W1,W1 = w.alloc (.cells #[.slice none 0 0,.int .i64 0,.bool false,.bool false] 105):=⟨_,rfl⟩
 rw [← h1] at hW
 obtain ⟨W2,h2⟩:∃ W2,W2 = W1.alloc (.cells #[.int .i64 0,.int .i64 0,.int .i64 0,.string ⟨#[]⟩,.slice none 0 0,.string ⟨#[]⟩,.int .i64 0,.int .i64 0,.int .i64 0,.int .i64 (-1),.bool true,.string ⟨#[]⟩,.int .i64 0,.int .i64 0] 99):=⟨_,rfl⟩
 rw [← h2] at hW
 obtain ⟨W3,h3⟩:∃ W3,W3 = W2.alloc (.cells #[.slice a n c,.slice (some ⟨w.heap.size + 1,0,none⟩) 1 1] 95):=⟨_,rfl⟩
 rw [← h3] at hW
 have s1:W1.heap.size = w.heap.size + 1:=by rw [h1];simp
 have s2:W2.heap.size = w.heap.size + 2:=by rw [h2];simp [s1]
 have s3:W3.heap.size = w.heap.size + 3:=by rw [h3];simp [s2]
 have s4:W.heap.size = w.heap.size + 4:=by rw [hW];simp [s3]
 have b1:Below w.heap.size w W1:=by rw [h1];exact (Below.refl _ _).alloc (Nat.le_refl _) _
 have b2:Below W1.heap.size W1 W2:=by rw [h2];exact (Below.refl _ _).alloc (Nat.le_refl _) _
 have b3:Below W2.heap.size W2 W3:=by rw [h3];exact (Below.refl _ _).alloc (Nat.le_refl _) _
 have b4:Below W3.heap.size W3 W:=by rw [hW];exact (Below.refl _ _).alloc (Nat.le_refl _) _
 have b34:=b3.trans (b4.mono (by omega))
 have b24:=b2.trans (b34.mono (by omega))
 have k0:W.heap[w.heap.size]? = some (.cells #[.slice none 0 0,.int .i64 0,.bool false,.bool false] 105 (0,0)):=(b24.block _ (by omega)).trans (by rw [h1];exact heap_alloc_new w _)
 have k2:W.heap[w.heap.size + 2]? = some (.cells #[.slice a n c,.slice (some ⟨w.heap.size + 1,0,none⟩) 1 1] 95 (0,0)):=(b4.block _ (by omega)).trans (by rw [h3,← s2];exact heap_alloc_new W2 _)
 have o1:=World.ownsRow_lit (base:=w.heap.size + 1) (e:=99) (size:=14) W1 #[.int .i64 0,.int .i64 0,.int .i64 0,.string ⟨#[]⟩,.slice none 0 0,.string ⟨#[]⟩,.int .i64 0,.int .i64 0,.int .i64 0,.int .i64 (-1),.bool true,.string ⟨#[]⟩,.int .i64 0,.int .i64 0] 1 (by omega) (by unfold maxLen;omega) rfl
 have o3:=World.ownsRow_lit (base:=w.heap.size + 3) (e:=3) (size:=1) W3 #[.int .i64 0] 1 (by omega) (by unfold maxLen;omega) rfl
 rw [← h2,s1] at o1
 rw [← hW,s3] at o3
 refine ⟨b1.trans (b24.mono (by omega)),by omega,⟨by omega,by omega,k0,World.ownsRow_nil _ _ _ _,fun _=>rfl,by decide⟩,k2,⟨_,own_block o1 fun k hk=>b34.block k (o1.lt k hk).2,fun i h hi=>?_⟩,o3⟩
 obtain ⟨rfl,rfl⟩:i = 0 ∧ hRoot = h:=by
  cases i with
  | zero=>simp at hi;exact ⟨rfl,hi⟩
  | succ i=>simp at hi
 refine ⟨none,0,0,Nat.le_refl _,⟨rfl,fun i hi=>absurd hi (Nat.not_lt_zero _)⟩,fun j hj=>?_⟩
 rw [Nat.zero_mul,Nat.zero_add]
 rfl
end Go.Proofs.YtgjokdngbocehaaGreatDoor
namespace Go.Proofs.YtgjokdngbocehaaGreatDoor
open Go.RowKit
variable {w W W2:World} {a:Option Addr} {n c:Nat} {sC:BegS} {hs:List HN} {o:List Nat} {vC vN vN' vO vO':Value}
theorem own_neB {w:World} {B n size j:Nat} {e e':TypeId} {v:Value} {xs:List Value} {cs:Array Value} {fz:Nat × Nat} (h:w.ownsRow B e size v n xs) (hb:w.heap[j]? = some (.cells cs e' fz)) (he:e ≠ e'):v.ownBlock ≠ some j:=by
 intro hk
 rcases h.2 with ⟨rfl,_⟩ | ⟨g,cap,cur,rfl,_,hg,_⟩
 ·cases hk
 ·cases hk
  rw [hg] at hb
  cases hb
  exact he rfl
theorem RInv.push {H:HN} {A:Option Addr} {m c':Nat} {ncs:List Value} (h:RInv w a n c sC hs o vC vN vO W) (hr:HnRow w hs ncs) (hl:ncs.length = hs.length * 14) (h1:m ≤ c') (h2:AttrsAt w A m H.ev.ats) (hap:App W W2 vN vN')
  (hown:W2.ownsRow (w.heap.size + 1) 99 14 vN' (hs.length + 1) (ncs ++ hnL H A m c')):RInv w a n c sC (hs ++ [H]) o vC vN' vO (W2.setCell ⟨w.heap.size + 2,1,none⟩ vN'):=by
 have hsz:=h.size
 have hbg:W2.heap[w.heap.size + 2]? = some (.cells #[.slice a n c,vN] 95 (0,0)):=(hap.keep (k:=w.heap.size + 2) (by omega) (fun e=>(h.ne.2.1 _ e).2.2 rfl)).trans h.bg
 have hkeep:∀ k,vN'.ownBlock = some k → (W2.setCell ⟨w.heap.size + 2,1,none⟩ vN').heap[k]? = W2.heap[k]?:=fun k hk=>Below.heap_setCell _ _ _ _ fun e=>own_neB hown hbg (by decide) (by rw [hk,e])
 exact h.nodes ((Moved.app hap).set _ _) (setCell_heap hbg _) ⟨_,by rw [List.length_append];exact own_block hown hkeep,hr.push hl H A m c' h1 h2⟩
theorem RInv.open1 {nl ol:Nat} (h:RInv w a n c sC hs o vC vN vO W) (hol:o.length = ol) (hap:App W W2 vO vO') (hown:W2.ownsRow (w.heap.size + 3) 3 1 vO' (ol + 1) (tsC (o.map fun (k:Nat)=>(k:Int)) ++ [.int .i64 (nl:Int)])):RInv w a n c sC hs (o ++ [nl]) vC vN vO' W2:=by
 refine h.opens (Moved.app hap) ?_
 rw [List.length_append,hol,List.length_singleton,List.map_append]
 unfold tsC at hown ⊢
 rw [List.map_append]
 exact hown
theorem RInv.addT {g l' cc:Nat} (h:RInv w a n c sC hs o vC (.slice (some ⟨g,0,none⟩) l' cc) vO W) (hl:hs.length = l') (k:Nat) (hk:k < hs.length) (t:List UInt8):RInv w a n c sC (hs.modify k (addT t)) o vC (.slice (some ⟨g,0,none⟩) l' cc) vO (W.setCell ⟨g,k * 14 + 11,none⟩ (.string (strL (hs[k].txt ++ t)))) :=
 h.turn hl k 11 hk (by decide) (Go.Proofs.YtgjokdngbocehaaGreatDoor.addT t) _ (fun _=>rfl) fun y A m c hy=>by
  rw [List.getElem?_eq_getElem hk] at hy
  cases hy
  exact hn_txt t _ A m c
theorem RInv.nodeAt {g l' cc:Nat} (h:RInv w a n c sC hs o vC (.slice (some ⟨g,0,none⟩) l' cc) vO W) (hl:hs.length = l') (k:Nat) (hk:k < hs.length):∃ (A:Option Addr) (m c:Nat),m ≤ c ∧ AttrsAt w A m hs[k].ev.ats ∧ ∀ j,j < 14 → W.cell? ⟨g,k * 14 + j,none⟩ = (hnL hs[k] A m c)[j]?:=by
 obtain ⟨ncs,hn,hr⟩:=h.nds
 subst hl
 obtain ⟨A,m,c,h1,h2,h3⟩:=hr k hs[k] (List.getElem?_eq_getElem hk)
 exact ⟨A,m,c,h1,h2,fun j hj=>by rw [hn.cellAt (k * 14 + j) (by omega)];exact h3 j hj⟩
theorem RInv.txtAt {g l' cc:Nat} (h:RInv w a n c sC hs o vC (.slice (some ⟨g,0,none⟩) l' cc) vO W) (hl:hs.length = l') (k:Nat) (hk:k < hs.length):W.cell? ⟨g,k * 14 + 11,none⟩ = some (.string (strL hs[k].txt)) ∧ W.frozen? ⟨g,k * 14 + 11,none⟩ = false:=by
 obtain ⟨A,m,c,_,_,h3⟩:=h.nodeAt hl k hk
 obtain ⟨ncs,hn,_⟩:=h.nds
 subst hl
 exact ⟨(h3 11 (by decide)).trans (by rw [hnL_eq];rfl),hn.frozenAt _⟩
theorem RInv.slice (h:RInv w a n c sC hs o vC vN vO W) (hp:1 ≤ hs.length):∃ g cc,vN = .slice (some ⟨g,0,none⟩) hs.length cc ∧ g < W.heap.size:=by
 obtain ⟨ncs,hn,_⟩:=h.nds
 obtain ⟨oa,na,rfl,hna,hoa0,hoas⟩:=own_slice hn
 cases oa with
 | none=>have:=hoa0 rfl;omega
 | some ad=>obtain ⟨g,rfl,_⟩:=hoas ad rfl;exact ⟨g,na,rfl,(hn.lt g rfl).2⟩
theorem RInv.hat (h:RInv w a n c sC hs o vC vN vO W) (hp:1 ≤ hs.length) (hc:hs.length ≤ 1048577) (hpar:∀ (i:Nat) (h:HN),hs[i]? = some h → 1 ≤ i → 0 ≤ h.par ∧ h.par < (i:Int))
  (htx:∀ h ∈ hs,h.txt.length ≤ 1048576) (hat:∀ h ∈ hs,h.ev.ats.length ≤ 1048576 ∧ ∀ p ∈ h.ev.ats,p.2.length ≤ 1048576):HAt W (w.heap.size + 2) hs:=by
 obtain ⟨g,cc,rfl,hg⟩:=h.slice hp
 have hsz:=h.size
 refine ⟨by omega,hp,hc,hpar,some ⟨g,0,none⟩,cc,by rw [cell_heap h.bg];rfl,fun i hi=>?_⟩
 obtain ⟨A,m,c1,h1,h2,h3⟩:=h.nodeAt rfl i hi
 have hm:=hat _ (List.getElem_mem hi)
 exact ⟨g,0,A,m,c1,rfl,hg,h1,by rw [h2.1];exact hm.1,h2.below h.old,hm.2,htx _ (List.getElem_mem hi),fun j hj=>by rw [Nat.zero_add];exact h3 j hj⟩
theorem hAll_open (N:Nat) (evs:List Ev) (k:Nat) (h:k < evs.length) (h0:evs[k].kind = 0):hAll N evs (k + 1) = ((hAll N evs k).1 ++ [⟨evs[k],1,topH (hAll N evs k).2,true,[],k,N⟩],(hAll N evs k).2 ++ [(hAll N evs k).1.length]):=by
 rw [hAll_succ N evs k h]
 unfold hNext
 rw [if_pos h0]
def txK (t:List UInt8) (o:List Nat) (hs:List HN) (j:Nat):List HN:=(o.take j).foldl (fun l k=>l.modify k (addT t)) hs
theorem txK_zero (t:List UInt8) (o:List Nat) (hs:List HN):txK t o hs 0 = hs:=by unfold txK;rw [List.take_zero];rfl
theorem txK_succ (t:List UInt8) (o:List Nat) (hs:List HN) (j:Nat) (h:j < o.length):txK t o hs (j + 1) = (txK t o hs j).modify o[j] (addT t):=by
 unfold txK;rw [List.take_succ_eq_append_getElem h,List.foldl_append];rfl
theorem txK_len (t:List UInt8) (o:List Nat) (hs:List HN) (j:Nat):(txK t o hs j).length = hs.length:=foldl_modify_len _ _ _
theorem hAll_text (N:Nat) (evs:List Ev) (k:Nat) (h:k < evs.length) (h1:evs[k].kind = 1):hAll N evs (k + 1) = (txK evs[k].text (hAll N evs k).2 ((hAll N evs k).1 ++ [⟨evs[k],2,topH (hAll N evs k).2,false,evs[k].text,k,k + 1⟩]) (hAll N evs k).2.length,(hAll N evs k).2):=by
 rw [hAll_succ N evs k h]
 unfold hNext txK
 rw [if_neg (by omega),if_pos h1,List.take_length]
end Go.Proofs.YtgjokdngbocehaaGreatDoor
