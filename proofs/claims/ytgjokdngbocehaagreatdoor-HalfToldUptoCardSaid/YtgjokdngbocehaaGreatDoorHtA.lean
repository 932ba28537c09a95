/-
  General words and lemmas for walks: slices of one-cell values, runes of a string. No program is named here.
-/
import Derived.WalkKit
import Derived.BigQuiet
import Derived.Deep.QuietTactic
import Derived.WalkSpells
import Derived.WalkLawsBesides
import Derived.Lib.Hide
import Derived.Lib.OthersKept
import Derived.Maps.AppendAt
import Derived.Laws.IdiomStrings
import Derived.Laws.BytesArg
import Derived.Lib.ConvBytes
namespace Go.Proofs.YtgjokdngbocehaaGreatDoor
open Go.RowKit
theorem ret_int {k:IntKind} {a b:Int} (h:a = b):Ending.returned (.int k a) = .returned (.int k b):=by rw [h]
theorem ret_bool {a b:Bool} (h:a = b):Ending.returned (.bool a) = .returned (.bool b):=by rw [h]
structure Sl (w:World) (a:Option Addr) (n:Nat) (xs:List Value):Prop where
 len:n = xs.length
 cell:∀ i,(h:i < xs.length) → ∃ b o,a = some ⟨b,o,none⟩ ∧ b < w.heap.size ∧ w.cell? ⟨b,o + i,none⟩ = some xs[i]
def RetSl (e:Ending) (w:World) (xs:List Value):Prop:=∃ a n c,e = .returned (.slice a n c) ∧ Sl w a n xs
theorem Sl.below {w w':World} {a:Option Addr} {n:Nat} {xs:List Value} (h:Sl w a n xs) (hb:Below w.heap.size w w'):Sl w' a n xs :=
 ⟨h.len,fun i hi=>by
  obtain ⟨b,o,ha,hlt,hc⟩:=h.cell i hi
  exact ⟨b,o,ha,Nat.lt_of_lt_of_le hlt hb.size,by rw [hb.cell (p:=⟨b,o + i,none⟩) hlt];exact hc⟩⟩
theorem Below.drewN {B:Nat} {a w:World} (h:Below B a w) (n:Nat):Below B a (w.drewN n):=⟨h.os,h.tape,h.output,h.size,h.block⟩
theorem Below.tr {a b c:World} (h:Below a.heap.size a b) (k:Below b.heap.size b c):Below a.heap.size a c:=h.trans (k.mono h.size)
theorem own_block {w w':World} {base:Nat} {e:TypeId} {size:Nat} {v:Value} {n:Nat} {xs:List Value} (h:w.ownsRow base e size v n xs)
  (hk:∀ k,v.ownBlock = some k → w'.heap[k]? = w.heap[k]?):w'.ownsRow base e size v n xs:=by
 obtain ⟨h1,h2⟩:=h
 refine ⟨h1,?_⟩
 rcases h2 with h2 | ⟨g,cap,cur,hv,hg,hh,r⟩
 ·exact Or.inl h2
 ·exact Or.inr ⟨g,cap,cur,hv,hg,by rw [hk g (by rw [hv];rfl)];exact hh,r⟩
theorem own_sl {w:World} {base:Nat} {e:TypeId} {v:Value} {n:Nat} {xs:List Value} (h:w.ownsRow base e 1 v n xs) :
  ∃ a c,v = .slice a n c ∧ Sl w a n xs:=by
 have hc:=fun g hg=>h.cells (g:=g) hg
 have hl:=h.lt
 obtain ⟨h1,h2⟩:=h
 rcases h2 with ⟨rfl,rfl⟩ | ⟨g,cap,cur,rfl,hg,hh,r⟩
 ·exact ⟨none,0,rfl,by simpa using h1.symm,fun i hi=>by omega⟩
 ·exact ⟨_,cap,rfl,by omega,fun i hi=>⟨g,0,rfl,(hl g rfl).2,by
   have:=hc g rfl i xs[i] (by simp)
   rw [Nat.zero_add]
   unfold Addr.add at this
   split at this
   ·subst i;exact this
   ·simpa using this⟩⟩
theorem setCell_heap {w:World} {b i:Nat} {c:Array Value} {e:TypeId} {fz:Nat × Nat} (h:w.heap[b]? = some (.cells c e fz)) (u:Value) :
  (w.setCell ⟨b,i,none⟩ u).heap[b]? = some (.cells (c.setIfInBounds i u) e fz):=by
 simp only [World.setCell,Array.getElem?_modify,if_true,h]
 rfl
theorem cell_heap {w:World} {b i:Nat} {c:Array Value} {e:TypeId} {fz:Nat × Nat} (h:w.heap[b]? = some (.cells c e fz)):w.cell? ⟨b,i,none⟩ = c[i]?:=by
 simp [World.cell?,h]
theorem frozen_heap {w:World} {b i:Nat} {c:Array Value} {e:TypeId} (h:w.heap[b]? = some (.cells c e (0,0))):w.frozen? ⟨b,i,none⟩ = false:=by
 simp [World.frozen?,h]
theorem heap_lt {w:World} {b:Nat} {o:Obj} (h:w.heap[b]? = some o):b < w.heap.size:=(Array.getElem?_eq_some_iff.1 h).1
structure App (w w':World) (v v':Value):Prop where
 grown:w.grownBy w' v.ownBlock
 own:v'.ownBlock = v.ownBlock ∨ ∃ g,v'.ownBlock = some g ∧ w.heap.size ≤ g
theorem App.below {w w':World} {v v':Value} (h:App w w' v v') {B:Nat} (hB:B ≤ w.heap.size) (hv:∀ k,v.ownBlock = some k → B ≤ k):Below B w w' :=
 (Below.refl B w).grown h.grown hB hv
theorem App.keep {w w':World} {v v':Value} (h:App w w' v v') {k:Nat} (hk:k < w.heap.size) (hne:v.ownBlock ≠ some k):w'.heap[k]? = w.heap[k]? :=
 h.grown.block k hk (fun e=>hne e.symm)
theorem App.ne {w w':World} {v v':Value} (h:App w w' v v') {k:Nat} (hk:k < w.heap.size) (hne:v.ownBlock ≠ some k):v'.ownBlock ≠ some k:=by
 rcases h.own with e | ⟨g,e,hg⟩
 ·rw [e];exact hne
 ·rw [e];intro e2;injection e2 with e2;omega
theorem wpList_app {P:Program} (w:World) {ops:Array Oper} {rest:List Oper} {o:Oper} {a:Act} {Q:Exit → Act → World → Prop} (hgd:o.guard = none) (s x:Operand) (t:TypeId)
  (ho:o.op = .call { callee:=.builtin .append,args:=#[s,x],argTypes:=#[t,t] })
  (base:Nat) (e:TypeId) (i:TypeInfo) (z:Value) (size bytes:Nat) (ht:P.underlying t = some (.slice e)) (hi:P.info? e = some i) (hz:i.zero = some z)
  (hsize:i.size = size) (hby:i.bytes = bytes) (hzs:z.cells.size = size) (hsz:0 < size)
  (v:Value) (n:Nat) (xs:List Value) (hs:a.eval s = v) (hown:w.ownsRow base e size v n xs)
  (H:Nat) (hH:w.heap.size = H) (c:Nat) (news:List Value) (hx:a.eval x = .slice (some ⟨H,0,none⟩) 1 c) (hl:news.length = size) (h1:∀ u ∈ news,u.oneCell' = true)
  (hn:n + 1 ≤ 4294967296) (hbb:bytes ≤ 16384) (hbase:base ≤ w.heap.size)
  (h:∀ v' w',w'.ownsRow base e size v' (n + 1) (xs ++ news) → App (w.alloc (.cells news.toArray e)) w' v v' → wpList P ops Q rest (a.put o.dst v') w') :
  wpList P ops Q (o :: rest) a (w.alloc (.cells news.toArray e)):=by
 subst hH
 have hb:(n + 1) * bytes ≤ 140737488355328:=Nat.le_trans (Nat.mul_le_mul hn hbb) (by decide)
 refine wpList_append_own_at _ hgd s x t ho base e i z size bytes ht hi hz hsize hby hzs hsz v n xs hs (hown.alloc _) ⟨w.heap.size,0,none⟩ 1 c news hx (by omega) ?_ h1 (by unfold maxLen;omega) hb ?_ ?_
 ·intro j u hj
  have hc:(w.alloc (.cells news.toArray e)).cell? ⟨w.heap.size,j,none⟩ = some u:=by
   simp only [World.cell?]
   rw [heap_alloc_new w _]
   simpa using hj
  unfold Addr.add
  split
  ·rename_i h0;subst h0;exact hc
  ·simpa using hc
 ·simp;omega
 ·intro v' w' h2 h3 _ h5
  refine h v' w' h2 ⟨h3,?_⟩
  rcases h5 with h5 | h5
  ·exact .inl h5
  ·exact .inr ⟨_,h5,Nat.le_refl _⟩
theorem width_pos (s:ByteArray) (pos:Nat) (h:pos < s.size):1 ≤ (Utf8.decode s pos).2:=by
 by_cases ha:(s[pos]'h).toNat < 128
 ·rw [decode_ascii s pos h ha]
  exact Nat.le_refl _
 ·exact (decode_high s pos h (by omega)).2
theorem decode_within (s:ByteArray) (p:Nat) (h:p < s.size):p + (Utf8.decode s p).2 ≤ s.size:=by
 simp only [Utf8.decode]
 repeat' split
 all_goals simp_all
 all_goals omega
def runesF (s:ByteArray):Nat → Nat → List Int
 | 0,_=>[]
 | f + 1,p=>if p < s.size then ((Utf8.decode s p).1:Int) :: runesF s f (p + (Utf8.decode s p).2) else []
theorem runesF_fuel (s:ByteArray) (f:Nat):∀ (g p:Nat),s.size - p ≤ f → s.size - p ≤ g → runesF s f p = runesF s g p:=by
 induction f with
 | zero =>
  intro g p hf _
  cases g with
  | zero=>rfl
  | succ g=>simp only [runesF];rw [if_neg (by omega)]
 | succ f ih =>
  intro g p hf hg
  cases g with
  | zero=>simp only [runesF];rw [if_neg (by omega)]
  | succ g =>
   simp only [runesF]
   by_cases h:p < s.size
   ·have:=width_pos s p h
    rw [if_pos h,if_pos h,ih g _ (by omega) (by omega)]
   ·rw [if_neg h,if_neg h]
def runesAt (s:ByteArray) (p:Nat):List Int:=runesF s (s.size - p) p
def runesOf (s:ByteArray):List Int:=runesF s s.size 0
theorem runesAt_zero (s:ByteArray):runesAt s 0 = runesOf s:=rfl
theorem runesAt_step (s:ByteArray) (p:Nat) (h:p < s.size):runesAt s p = ((Utf8.decode s p).1:Int) :: runesAt s (p + (Utf8.decode s p).2):=by
 have hw:=width_pos s p h
 unfold runesAt
 obtain ⟨f,hf⟩:∃ f,s.size - p = f + 1:=⟨s.size - p - 1,by omega⟩
 rw [hf]
 simp only [runesF]
 rw [if_pos h,runesF_fuel s f (s.size - (p + (Utf8.decode s p).2)) _ (by omega) (by omega)]
theorem runesAt_end (s:ByteArray) (p:Nat) (h:¬ p < s.size):runesAt s p = []:=by
 unfold runesAt
 rw [show s.size - p = 0 by omega]
 rfl
theorem runesF_length (s:ByteArray) (f:Nat):∀ p,(runesF s f p).length ≤ f:=by
 induction f with
 | zero=>intro p;exact Nat.le_refl _
 | succ f ih =>
  intro p
  simp only [runesF]
  split
  ·have:=ih (p + (Utf8.decode s p).2);simp only [List.length_cons];omega
  ·simp
theorem runesOf_length (s:ByteArray):(runesOf s).length ≤ s.size:=runesF_length s _ 0
theorem Sl.keep {w w':World} {a:Option Addr} {n:Nat} {xs:List Value} (h:Sl w a n xs) (hk:∀ b o,a = some ⟨b,o,none⟩ → w'.heap[b]? = w.heap[b]?):Sl w' a n xs :=
 ⟨h.len,fun i hi=>by
  obtain ⟨b,o,ha,hlt,hc⟩:=h.cell i hi
  have hb:=hk b o ha
  refine ⟨b,o,ha,?_,?_⟩
  ·rw [Array.getElem?_eq_getElem hlt] at hb
   exact heap_lt hb
  ·rw [World.cell?_of_block (a:=⟨b,o + i,none⟩) hb];exact hc⟩
theorem Sl.nil (w:World) (a:Option Addr):Sl w a 0 []:=⟨rfl,fun i hi=>absurd hi (by simp)⟩
def u8s (l:List UInt8):List Value:=l.map fun b=>.int .u8 b.toNat
theorem u8s_length (l:List UInt8):(u8s l).length = l.length:=by simp [u8s]
def bytesV (s:ByteArray):List Value:=s.data.toList.map fun b=>.int .u8 b.toNat
theorem bytesV_length (s:ByteArray):(bytesV s).length = s.size:=by
 unfold bytesV;rw [List.length_map,Array.length_toList];rfl
theorem ofNat_toNat_map (l:List UInt8):(l.map fun b=>(b.toNat:Int)).map (fun n=>UInt8.ofNat n.toNat) = l:=by
 induction l with
 | nil=>rfl
 | cons b l ih=>simp only [List.map_cons,ih,Int.toNat_natCast,UInt8.ofNat_toNat]
theorem run_index_str {P:Program} (t:TypeId) (ht:P.underlying t = some .string) (s:ByteArray) (k:Nat) (o:UInt8) (h:s.data.toList[k]? = some o) (w:World) :
  (Instr.index t (.string s) (.int .i64 k)).run P w = .ok (.int .u8 o.toNat) w:=by
 have hk:k < s.size:=by
  have:=(List.getElem?_eq_some_iff.1 h).1
  rw [Array.length_toList] at this
  exact this
 have e:s[k] = o:=by
  have h2:=(List.getElem?_eq_some_iff.1 h).2
  rw [← h2]
  rfl
 simp [go_sem,ht,hk,e]
theorem run_bytes_str {P:Program} {w:World} {a:Option Addr} {n:Nat} {s:ByteArray} (h:Sl w a n (bytesV s)) (src dst e:TypeId) (hs:P.underlying src = some (.slice e)) (he:P.underlying e = some (.int .u8))
  (hd:P.underlying dst = some .string) (c:Nat):(convert src dst (.slice a n c)).run P w = .ok (.string s) w:=by
 have hlen:n = s.size:=by rw [h.len,bytesV_length]
 have hl:s.data.toList.length = s.size:=by rw [Array.length_toList];rfl
 rcases a with _ | ⟨b,o,sp⟩
 ·have h0:s.data.toList = []:=by
   rcases hb:s.data.toList with _ | ⟨x,l⟩
   ·rfl
   ·exfalso
    obtain ⟨b,o,e,_⟩:=h.cell 0 (by rw [bytesV_length,← hl,hb];simp)
    cases e
  rw [run_convert_bytes_nil (P:=P) w src e hs he n c dst hd]
  congr 2
  have:s.data = #[]:=Array.toList_eq_nil_iff.1 h0
  cases s
  simp_all
  rfl
 ·by_cases hn:n = 0
  ·subst hn
   have h0:s.data.toList = []:=by apply List.eq_nil_of_length_eq_zero;omega
   have h1:(loadCells ⟨b,o,sp⟩ 0).run P w = .ok (([]:List Int).map (Value.int .u8)).toArray w:=rfl
   rw [run_convert_bytes_string w src dst e _ 0 c hs he hd,run_bytesToString w _ 0 c [] h1]
   congr 2
   have:s.data = #[]:=Array.toList_eq_nil_iff.1 h0
   cases s
   simp_all
   rfl
  ·obtain ⟨b',o',e,_⟩:=h.cell 0 (by rw [bytesV_length];omega)
   injection e with e
   injection e with e1 e2 e3
   subst e3
   rw [run_convert_bytes_arg (P:=P) w src e hs he b o n c (s.data.toList.map fun b=>(b.toNat:Int)) (by rw [List.length_map,hl,hlen]) (fun i hi=>?_) dst hd]
   ·congr 2
    unfold strOfNums
    rw [ofNat_toNat_map]
   ·obtain ⟨b',o',e,_,hc⟩:=h.cell i (by rw [bytesV_length];omega)
    injection e with e
    injection e with e4 e5
    subst e4
    subst e5
    rw [hc]
    have hi':i < s.data.size:=by rw [← Array.length_toList];omega
    simp only [bytesV,List.getD,List.getElem_map,List.getElem?_map,Array.getElem?_toList,Array.getElem_toList,Array.getElem?_eq_getElem hi',Option.map_some,Option.getD_some]
theorem bytesW_below (w:World) (e:TypeId) (s:ByteArray):Below w.heap.size w (Lib.bytesWorld w e s) :=
 ⟨rfl,rfl,rfl,by rw [Lib.bytesWorld_size];omega,fun k hk=>Lib.bytesWorld_at_old w e s k hk⟩
theorem bytesW_sl (w:World) (e:TypeId) (s:ByteArray):Sl (Lib.bytesWorld w e s) (some ⟨w.heap.size,0,none⟩) s.size (bytesV s) :=
 ⟨(bytesV_length s).symm,fun i hi=>⟨w.heap.size,0,rfl,by rw [Lib.bytesWorld_size];omega,by
  have h1:i < s.size:=by rw [bytesV_length] at hi;exact hi
  have h2:i < s.data.size:=h1
  rw [Nat.zero_add,Lib.bytesWorld_cell w e s i h1]
  simp only [bytesV,List.getD,List.getElem_map,Array.getElem?_toList,Array.getElem_toList,Array.getElem?_eq_getElem h2,Option.getD_some]⟩⟩
def cmpL:List Int → List Int → Int
 | [],[]=>0
 | [],_ :: _=>-1
 | _ :: _,[]=>1
 | a :: s,b :: t=>if a < b then -1 else if b < a then 1 else cmpL s t
theorem cmpL_drop (xs ys:List Int) (k:Nat) (h0:k < xs.length) (h1:k < ys.length) :
  cmpL (xs.drop k) (ys.drop k) = if xs[k] < ys[k] then -1 else if ys[k] < xs[k] then 1 else cmpL (xs.drop (k + 1)) (ys.drop (k + 1)):=by
 rw [List.drop_eq_getElem_cons h0,List.drop_eq_getElem_cons h1];rfl
theorem cmpL_end (xs ys:List Int) (k:Nat) (h:¬ (k < xs.length ∧ k < ys.length)) (hx:k ≤ xs.length) (hy:k ≤ ys.length) :
  cmpL (xs.drop k) (ys.drop k) = if xs.length < ys.length then -1 else if ys.length < xs.length then 1 else 0:=by
 by_cases h0:k < xs.length
 ·rw [List.drop_eq_getElem_cons h0,List.drop_of_length_le (l:=ys) (by omega),if_neg (by omega),if_pos (by omega)];rfl
 ·rw [List.drop_of_length_le (by omega:xs.length ≤ k)]
  by_cases h1:k < ys.length
  ·rw [List.drop_eq_getElem_cons h1,if_pos (by omega)];rfl
  ·rw [List.drop_of_length_le (by omega),if_neg (by omega),if_neg (by omega)];rfl
end Go.Proofs.YtgjokdngbocehaaGreatDoor
