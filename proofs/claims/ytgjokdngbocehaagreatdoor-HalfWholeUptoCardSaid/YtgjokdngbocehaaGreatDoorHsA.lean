/-
  General words and lemmas for walks: slices of one-cell values, runes of a string. No program is named here.
-/
import Derived.WalkKit
import Derived.BigQuiet
import Derived.Deep.QuietTactic
import Derived.WalkSpells
import Derived.WalkLawsBesides
import Derived.Lib.Hide
import Derived.Lib.OthersKept
import Derived.Maps.AppendAt
import Derived.Laws.IdiomStrings
import Derived.Laws.BytesArg
import Derived.Lib.ConvBytes
import Derived.Lib.DecodeN
import Derived.Test.YtgjokdngbocehaaGreatDoorProg
import Derived.RegionCalls
import Derived.Laws.LoneSync
import Derived.Laws.Pointers
import Derived.Defers
import Derived.Deep.MidRow
namespace Go.Proofs.YtgjokdngbocehaaGreatDoor
open Go.RowKit
theorem ret_int {k:IntKind} {a b:Int} (h:a = b):Ending.returned (.int k a) = .returned (.int k b):=by rw [h]
theorem ret_bool {a b:Bool} (h:a = b):Ending.returned (.bool a) = .returned (.bool b):=by rw [h]
structure Sl (w:World) (a:Option Addr) (n:Nat) (xs:List Value):Prop where
 len:n = xs.length
 cell:∀ i,(h:i < xs.length) → ∃ b o,a = some ⟨b,o,none⟩ ∧ b < w.heap.size ∧ w.cell? ⟨b,o + i,none⟩ = some xs[i]
def RetSl (e:Ending) (w:World) (xs:List Value):Prop:=∃ a n c,e = .returned (.slice a n c) ∧ Sl w a n xs
theorem Sl.below {w w':World} {a:Option Addr} {n:Nat} {xs:List Value} (h:Sl w a n xs) (hb:Below w.heap.size w w'):Sl w' a n xs :=
 ⟨h.len,fun i hi=>by
  obtain ⟨b,o,ha,hlt,hc⟩:=h.cell i hi
  exact ⟨b,o,ha,Nat.lt_of_lt_of_le hlt hb.size,by rw [hb.cell (p:=⟨b,o + i,none⟩) hlt];exact hc⟩⟩
theorem Below.drewN {B:Nat} {a w:World} (h:Below B a w) (n:Nat):Below B a (w.drewN n):=⟨h.os,h.tape,h.output,h.size,h.block⟩
theorem Below.tr {a b c:World} (h:Below a.heap.size a b) (k:Below b.heap.size b c):Below a.heap.size a c:=h.trans (k.mono h.size)
theorem own_block {w w':World} {base:Nat} {e:TypeId} {size:Nat} {v:Value} {n:Nat} {xs:List Value} (h:w.ownsRow base e size v n xs)
  (hk:∀ k,v.ownBlock = some k → w'.heap[k]? = w.heap[k]?):w'.ownsRow base e size v n xs:=by
 obtain ⟨h1,h2⟩:=h
 refine ⟨h1,?_⟩
 rcases h2 with h2 | ⟨g,cap,cur,hv,hg,hh,r⟩
 ·exact Or.inl h2
 ·exact Or.inr ⟨g,cap,cur,hv,hg,by rw [hk g (by rw [hv];rfl)];exact hh,r⟩
theorem own_sl {w:World} {base:Nat} {e:TypeId} {v:Value} {n:Nat} {xs:List Value} (h:w.ownsRow base e 1 v n xs) :
  ∃ a c,v = .slice a n c ∧ Sl w a n xs:=by
 have hc:=fun g hg=>h.cells (g:=g) hg
 have hl:=h.lt
 obtain ⟨h1,h2⟩:=h
 rcases h2 with ⟨rfl,rfl⟩ | ⟨g,cap,cur,rfl,hg,hh,r⟩
 ·exact ⟨none,0,rfl,by simpa using h1.symm,fun i hi=>by omega⟩
 ·exact ⟨_,cap,rfl,by omega,fun i hi=>⟨g,0,rfl,(hl g rfl).2,by
   have:=hc g rfl i xs[i] (by simp)
   rw [Nat.zero_add]
   unfold Addr.add at this
   split at this
   ·subst i;exact this
   ·simpa using this⟩⟩
theorem setCell_heap {w:World} {b i:Nat} {c:Array Value} {e:TypeId} {fz:Nat × Nat} (h:w.heap[b]? = some (.cells c e fz)) (u:Value) :
  (w.setCell ⟨b,i,none⟩ u).heap[b]? = some (.cells (c.setIfInBounds i u) e fz):=by
 simp only [World.setCell,Array.getElem?_modify,if_true,h]
 rfl
theorem cell_heap {w:World} {b i:Nat} {c:Array Value} {e:TypeId} {fz:Nat × Nat} (h:w.heap[b]? = some (.cells c e fz)):w.cell? ⟨b,i,none⟩ = c[i]?:=by
 simp [World.cell?,h]
theorem frozen_heap {w:World} {b i:Nat} {c:Array Value} {e:TypeId} (h:w.heap[b]? = some (.cells c e (0,0))):w.frozen? ⟨b,i,none⟩ = false:=by
 simp [World.frozen?,h]
theorem heap_lt {w:World} {b:Nat} {o:Obj} (h:w.heap[b]? = some o):b < w.heap.size:=(Array.getElem?_eq_some_iff.1 h).1
structure App (w w':World) (v v':Value):Prop where
 grown:w.grownBy w' v.ownBlock
 own:v'.ownBlock = v.ownBlock ∨ ∃ g,v'.ownBlock = some g ∧ w.heap.size ≤ g
theorem App.below {w w':World} {v v':Value} (h:App w w' v v') {B:Nat} (hB:B ≤ w.heap.size) (hv:∀ k,v.ownBlock = some k → B ≤ k):Below B w w' :=
 (Below.refl B w).grown h.grown hB hv
theorem App.keep {w w':World} {v v':Value} (h:App w w' v v') {k:Nat} (hk:k < w.heap.size) (hne:v.ownBlock ≠ some k):w'.heap[k]? = w.heap[k]? :=
 h.grown.block k hk (fun e=>hne e.symm)
theorem App.ne {w w':World} {v v':Value} (h:App w w' v v') {k:Nat} (hk:k < w.heap.size) (hne:v.ownBlock ≠ some k):v'.ownBlock ≠ some k:=by
 rcases h.own with e | ⟨g,e,hg⟩
 ·rw [e];exact hne
 ·rw [e];intro e2;injection e2 with e2;omega
theorem wpList_app {P:Program} (w:World) {ops:Array Oper} {rest:List Oper} {o:Oper} {a:Act} {Q:Exit → Act → World → Prop} (hgd:o.guard = none) (s x:Operand) (t:TypeId)
  (ho:o.op = .call { callee:=.builtin .append,args:=#[s,x],argTypes:=#[t,t] })
  (base:Nat) (e:TypeId) (i:TypeInfo) (z:Value) (size bytes:Nat) (ht:P.underlying t = some (.slice e)) (hi:P.info? e = some i) (hz:i.zero = some z)
  (hsize:i.size = size) (hby:i.bytes = bytes) (hzs:z.cells.size = size) (hsz:0 < size)
  (v:Value) (n:Nat) (xs:List Value) (hs:a.eval s = v) (hown:w.ownsRow base e size v n xs)
  (H:Nat) (hH:w.heap.size = H) (c:Nat) (news:List Value) (hx:a.eval x = .slice (some ⟨H,0,none⟩) 1 c) (hl:news.length = size) (h1:∀ u ∈ news,u.oneCell' = true)
  (hn:n + 1 ≤ 4294967296) (hbb:bytes ≤ 16384) (hbase:base ≤ w.heap.size)
  (h:∀ v' w',w'.ownsRow base e size v' (n + 1) (xs ++ news) → App (w.alloc (.cells news.toArray e)) w' v v' → wpList P ops Q rest (a.put o.dst v') w') :
  wpList P ops Q (o :: rest) a (w.alloc (.cells news.toArray e)):=by
 subst hH
 have hb:(n + 1) * bytes ≤ 140737488355328:=Nat.le_trans (Nat.mul_le_mul hn hbb) (by decide)
 refine wpList_append_own_at _ hgd s x t ho base e i z size bytes ht hi hz hsize hby hzs hsz v n xs hs (hown.alloc _) ⟨w.heap.size,0,none⟩ 1 c news hx (by omega) ?_ h1 (by unfold maxLen;omega) hb ?_ ?_
 ·intro j u hj
  have hc:(w.alloc (.cells news.toArray e)).cell? ⟨w.heap.size,j,none⟩ = some u:=by
   simp only [World.cell?]
   rw [heap_alloc_new w _]
   simpa using hj
  unfold Addr.add
  split
  ·rename_i h0;subst h0;exact hc
  ·simpa using hc
 ·simp;omega
 ·intro v' w' h2 h3 _ h5
  refine h v' w' h2 ⟨h3,?_⟩
  rcases h5 with h5 | h5
  ·exact .inl h5
  ·exact .inr ⟨_,h5,Nat.le_refl _⟩
theorem width_pos (s:ByteArray) (pos:Nat) (h:pos < s.size):1 ≤ (Utf8.decode s pos).2:=by
 by_cases ha:(s[pos]'h).toNat < 128
 ·rw [decode_ascii s pos h ha]
  exact Nat.le_refl _
 ·exact (decode_high s pos h (by omega)).2
theorem decode_within (s:ByteArray) (p:Nat) (h:p < s.size):p + (Utf8.decode s p).2 ≤ s.size:=by
 simp only [Utf8.decode]
 repeat' split
 all_goals simp_all
 all_goals omega
def runesF (s:ByteArray):Nat → Nat → List Int
 | 0,_=>[]
 | f + 1,p=>if p < s.size then ((Utf8.decode s p).1:Int) :: runesF s f (p + (Utf8.decode s p).2) else []
theorem runesF_fuel (s:ByteArray) (f:Nat):∀ (g p:Nat),s.size - p ≤ f → s.size - p ≤ g → runesF s f p = runesF s g p:=by
 induction f with
 | zero =>
  intro g p hf _
  cases g with
  | zero=>rfl
  | succ g=>simp only [runesF];rw [if_neg (by omega)]
 | succ f ih =>
  intro g p hf hg
  cases g with
  | zero=>simp only [runesF];rw [if_neg (by omega)]
  | succ g =>
   simp only [runesF]
   by_cases h:p < s.size
   ·have:=width_pos s p h
    rw [if_pos h,if_pos h,ih g _ (by omega) (by omega)]
   ·rw [if_neg h,if_neg h]
def runesAt (s:ByteArray) (p:Nat):List Int:=runesF s (s.size - p) p
def runesOf (s:ByteArray):List Int:=runesF s s.size 0
theorem runesAt_zero (s:ByteArray):runesAt s 0 = runesOf s:=rfl
theorem runesAt_step (s:ByteArray) (p:Nat) (h:p < s.size):runesAt s p = ((Utf8.decode s p).1:Int) :: runesAt s (p + (Utf8.decode s p).2):=by
 have hw:=width_pos s p h
 unfold runesAt
 obtain ⟨f,hf⟩:∃ f,s.size - p = f + 1:=⟨s.size - p - 1,by omega⟩
 rw [hf]
 simp only [runesF]
 rw [if_pos h,runesF_fuel s f (s.size - (p + (Utf8.decode s p).2)) _ (by omega) (by omega)]
theorem runesAt_end (s:ByteArray) (p:Nat) (h:¬ p < s.size):runesAt s p = []:=by
 unfold runesAt
 rw [show s.size - p = 0 by omega]
 rfl
theorem runesF_length (s:ByteArray) (f:Nat):∀ p,(runesF s f p).length ≤ f:=by
 induction f with
 | zero=>intro p;exact Nat.le_refl _
 | succ f ih =>
  intro p
  simp only [runesF]
  split
  ·have:=ih (p + (Utf8.decode s p).2);simp only [List.length_cons];omega
  ·simp
theorem runesOf_length (s:ByteArray):(runesOf s).length ≤ s.size:=runesF_length s _ 0
theorem Sl.keep {w w':World} {a:Option Addr} {n:Nat} {xs:List Value} (h:Sl w a n xs) (hk:∀ b o,a = some ⟨b,o,none⟩ → w'.heap[b]? = w.heap[b]?):Sl w' a n xs :=
 ⟨h.len,fun i hi=>by
  obtain ⟨b,o,ha,hlt,hc⟩:=h.cell i hi
  have hb:=hk b o ha
  refine ⟨b,o,ha,?_,?_⟩
  ·rw [Array.getElem?_eq_getElem hlt] at hb
   exact heap_lt hb
  ·rw [World.cell?_of_block (a:=⟨b,o + i,none⟩) hb];exact hc⟩
theorem Sl.nil (w:World) (a:Option Addr):Sl w a 0 []:=⟨rfl,fun i hi=>absurd hi (by simp)⟩
def u8s (l:List UInt8):List Value:=l.map fun b=>.int .u8 b.toNat
theorem u8s_length (l:List UInt8):(u8s l).length = l.length:=by simp [u8s]
def bytesV (s:ByteArray):List Value:=s.data.toList.map fun b=>.int .u8 b.toNat
theorem bytesV_length (s:ByteArray):(bytesV s).length = s.size:=by
 unfold bytesV;rw [List.length_map,Array.length_toList];rfl
theorem ofNat_toNat_map (l:List UInt8):(l.map fun b=>(b.toNat:Int)).map (fun n=>UInt8.ofNat n.toNat) = l:=by
 induction l with
 | nil=>rfl
 | cons b l ih=>simp only [List.map_cons,ih,Int.toNat_natCast,UInt8.ofNat_toNat]
theorem run_index_str {P:Program} (t:TypeId) (ht:P.underlying t = some .string) (s:ByteArray) (k:Nat) (o:UInt8) (h:s.data.toList[k]? = some o) (w:World) :
  (Instr.index t (.string s) (.int .i64 k)).run P w = .ok (.int .u8 o.toNat) w:=by
 have hk:k < s.size:=by
  have:=(List.getElem?_eq_some_iff.1 h).1
  rw [Array.length_toList] at this
  exact this
 have e:s[k] = o:=by
  have h2:=(List.getElem?_eq_some_iff.1 h).2
  rw [← h2]
  rfl
 simp [go_sem,ht,hk,e]
theorem run_bytes_str {P:Program} {w:World} {a:Option Addr} {n:Nat} {s:ByteArray} (h:Sl w a n (bytesV s)) (src dst e:TypeId) (hs:P.underlying src = some (.slice e)) (he:P.underlying e = some (.int .u8))
  (hd:P.underlying dst = some .string) (c:Nat):(convert src dst (.slice a n c)).run P w = .ok (.string s) w:=by
 have hlen:n = s.size:=by rw [h.len,bytesV_length]
 have hl:s.data.toList.length = s.size:=by rw [Array.length_toList];rfl
 rcases a with _ | ⟨b,o,sp⟩
 ·have h0:s.data.toList = []:=by
   rcases hb:s.data.toList with _ | ⟨x,l⟩
   ·rfl
   ·exfalso
    obtain ⟨b,o,e,_⟩:=h.cell 0 (by rw [bytesV_length,← hl,hb];simp)
    cases e
  rw [run_convert_bytes_nil (P:=P) w src e hs he n c dst hd]
  congr 2
  have:s.data = #[]:=Array.toList_eq_nil_iff.1 h0
  cases s
  simp_all
  rfl
 ·by_cases hn:n = 0
  ·subst hn
   have h0:s.data.toList = []:=by apply List.eq_nil_of_length_eq_zero;omega
   have h1:(loadCells ⟨b,o,sp⟩ 0).run P w = .ok (([]:List Int).map (Value.int .u8)).toArray w:=rfl
   rw [run_convert_bytes_string w src dst e _ 0 c hs he hd,run_bytesToString w _ 0 c [] h1]
   congr 2
   have:s.data = #[]:=Array.toList_eq_nil_iff.1 h0
   cases s
   simp_all
   rfl
  ·obtain ⟨b',o',e,_⟩:=h.cell 0 (by rw [bytesV_length];omega)
   injection e with e
   injection e with e1 e2 e3
   subst e3
   rw [run_convert_bytes_arg (P:=P) w src e hs he b o n c (s.data.toList.map fun b=>(b.toNat:Int)) (by rw [List.length_map,hl,hlen]) (fun i hi=>?_) dst hd]
   ·congr 2
    unfold strOfNums
    rw [ofNat_toNat_map]
   ·obtain ⟨b',o',e,_,hc⟩:=h.cell i (by rw [bytesV_length];omega)
    injection e with e
    injection e with e4 e5
    subst e4
    subst e5
    rw [hc]
    have hi':i < s.data.size:=by rw [← Array.length_toList];omega
    simp only [bytesV,List.getD,List.getElem_map,List.getElem?_map,Array.getElem?_toList,Array.getElem_toList,Array.getElem?_eq_getElem hi',Option.map_some,Option.getD_some]
theorem bytesW_below (w:World) (e:TypeId) (s:ByteArray):Below w.heap.size w (Lib.bytesWorld w e s) :=
 ⟨rfl,rfl,rfl,by rw [Lib.bytesWorld_size];omega,fun k hk=>Lib.bytesWorld_at_old w e s k hk⟩
theorem bytesW_sl (w:World) (e:TypeId) (s:ByteArray):Sl (Lib.bytesWorld w e s) (some ⟨w.heap.size,0,none⟩) s.size (bytesV s) :=
 ⟨(bytesV_length s).symm,fun i hi=>⟨w.heap.size,0,rfl,by rw [Lib.bytesWorld_size];omega,by
  have h1:i < s.size:=by rw [bytesV_length] at hi;exact hi
  have h2:i < s.data.size:=h1
  rw [Nat.zero_add,Lib.bytesWorld_cell w e s i h1]
  simp only [bytesV,List.getD,List.getElem_map,Array.getElem?_toList,Array.getElem_toList,Array.getElem?_eq_getElem h2,Option.getD_some]⟩⟩
def cmpL:List Int → List Int → Int
 | [],[]=>0
 | [],_ :: _=>-1
 | _ :: _,[]=>1
 | a :: s,b :: t=>if a < b then -1 else if b < a then 1 else cmpL s t
theorem cmpL_drop (xs ys:List Int) (k:Nat) (h0:k < xs.length) (h1:k < ys.length) :
  cmpL (xs.drop k) (ys.drop k) = if xs[k] < ys[k] then -1 else if ys[k] < xs[k] then 1 else cmpL (xs.drop (k + 1)) (ys.drop (k + 1)):=by
 rw [List.drop_eq_getElem_cons h0,List.drop_eq_getElem_cons h1];rfl
theorem cmpL_end (xs ys:List Int) (k:Nat) (h:¬ (k < xs.length ∧ k < ys.length)) (hx:k ≤ xs.length) (hy:k ≤ ys.length) :
  cmpL (xs.drop k) (ys.drop k) = if xs.length < ys.length then -1 else if ys.length < xs.length then 1 else 0:=by
 by_cases h0:k < xs.length
 ·rw [List.drop_eq_getElem_cons h0,List.drop_of_length_le (l:=ys) (by omega),if_neg (by omega),if_pos (by omega)];rfl
 ·rw [List.drop_of_length_le (by omega:xs.length ≤ k)]
  by_cases h1:k < ys.length
  ·rw [List.drop_eq_getElem_cons h1,if_pos (by omega)];rfl
  ·rw [List.drop_of_length_le (by omega),if_neg (by omega),if_neg (by omega)];rfl
end Go.Proofs.YtgjokdngbocehaaGreatDoor
namespace Go.Proofs.YtgjokdngbocehaaGreatDoor
def chr (r:Nat):Prop:=r < 55296 ∨ (57344 ≤ r ∧ r ≤ 1114111)
def encN (r:Nat):List Nat :=
 if r < 128 then [r]
 else if r < 2048 then [192 + r / 64,128 + r % 64]
 else if r < 65536 then [224 + r / 4096,128 + r / 64 % 64,128 + r % 64]
 else [240 + r / 262144,128 + r / 4096 % 64,128 + r / 64 % 64,128 + r % 64]
def natLess:List Nat → List Nat → Bool
 | _,[]=>false
 | [],_ :: _=>true
 | a :: x,b :: y=>decide (a < b) || (a == b && natLess x y)
theorem bytesLess_nat:∀ l m:List UInt8,Op.bytesLess l m = natLess (l.map UInt8.toNat) (m.map UInt8.toNat)
 | _,[]=>by unfold Op.bytesLess;simp [natLess]
 | [],b :: y=>by simp [Op.bytesLess,natLess]
 | a :: x,b :: y=>by
  simp only [Op.bytesLess,List.map_cons,natLess,bytesLess_nat x y]
  congr 1
  have:(a == b) = (a.toNat == b.toNat):=by rw [Bool.eq_iff_iff];simp [UInt8.toNat_inj]
  rw [this]
theorem natLess_app (p x y:List Nat):natLess (p ++ x) (p ++ y) = natLess x y:=by
 induction p with
 | nil=>rfl
 | cons a p ih=>simp [natLess,ih]
set_option maxHeartbeats 1000000 in
theorem encN_lt (r q:Nat) (x y:List Nat) (h:r < q):natLess (encN r ++ x) (encN q ++ y) = true:=by
 unfold encN
 repeat' split
 all_goals (try (exfalso;omega))
 all_goals simp only [List.cons_append,List.nil_append,natLess,Bool.or_eq_true,Bool.and_eq_true,decide_eq_true_eq,beq_iff_eq]
 all_goals omega
set_option maxHeartbeats 1000000 in
theorem encN_gt (r q:Nat) (x y:List Nat) (h:r < q):natLess (encN q ++ y) (encN r ++ x) = false:=by
 unfold encN
 repeat' split
 all_goals (try (exfalso;omega))
 all_goals simp only [List.cons_append,List.nil_append,natLess,Bool.or_eq_false_iff,Bool.and_eq_false_iff,decide_eq_false_iff_not,beq_eq_false_iff_ne]
 all_goals omega
def bytesN (s:ByteArray) (p:Nat):List Nat:=(s.data.toList.drop p).map UInt8.toNat
theorem len_data (s:ByteArray):s.data.toList.length = s.size:=by rw [Array.length_toList];rfl
theorem get_nat (s:ByteArray) (p:Nat) (h:p < s.size):(bytesN s p) = (s.get! p).toNat :: bytesN s (p + 1):=by
 have hl:p < s.data.toList.length:=by rw [len_data];exact h
 unfold bytesN
 rw [List.drop_eq_getElem_cons hl,List.map_cons]
 have e:s.get! p = s.data.toList[p]:=by
  rw [show s.get! p = s.get! (p + 0) by rfl,get_at s p h]
  rfl
 rw [e]
theorem bytesN_end (s:ByteArray) (p:Nat) (h:¬ p < s.size):bytesN s p = []:=by
 unfold bytesN
 rw [List.drop_of_length_le (by rw [len_data];omega)]
 rfl
theorem byte_lt (s:ByteArray) (p:Nat):(s.get! p).toNat < 256:=(s.get! p).toNat_lt
set_option maxHeartbeats 2000000 in
theorem decode_good (s:ByteArray) (p:Nat) (h:p < s.size) (hg:¬ ((Utf8.decode s p).1 = 65533 ∧ (Utf8.decode s p).2 = 1)) :
  chr (Utf8.decode s p).1 ∧ bytesN s p = encN (Utf8.decode s p).1 ++ bytesN s (p + (Utf8.decode s p).2):=by
 have h0:=byte_lt s p
 have h1:=byte_lt s (p + 1)
 have h2:=byte_lt s (p + 2)
 have h3:=byte_lt s (p + 3)
 have g0:=get_nat s p h
 have g1:=get_nat s (p + 1)
 have g2:=get_nat s (p + 2)
 have g3:=get_nat s (p + 3)
 rw [Lib.decode_at] at hg ⊢
 generalize (s.get! p).toNat = b0 at *
 generalize (s.get! (p + 1)).toNat = b1 at *
 generalize (s.get! (p + 2)).toNat = b2 at *
 generalize (s.get! (p + 3)).toNat = b3 at *
 unfold Lib.decodeN at hg ⊢
 unfold chr
 split
 ·refine ⟨by simp only;omega,?_⟩
  simp only [encN]
  rw [if_pos (by assumption),g0]
  rfl
 ·split
  ·split
   ·refine ⟨by simp only;omega,?_⟩
    simp only [encN]
    rw [if_neg (by omega),if_pos (by omega),g0,g1 (by omega)]
    simp only [List.cons_append,List.nil_append,List.cons.injEq]
    exact ⟨by omega,by omega,trivial⟩
   ·rename_i a b c;rw [if_neg a,if_pos b,if_neg c] at hg;simp at hg
  ·split
   ·split
    ·refine ⟨by simp only;omega,?_⟩
     simp only [encN]
     rw [if_neg (by omega),if_neg (by omega),if_pos (by omega),g0,g1 (by omega),g2 (by omega)]
     simp only [List.cons_append,List.nil_append,List.cons.injEq]
     exact ⟨by omega,by omega,by omega,trivial⟩
    ·rename_i a b c d;rw [if_neg a,if_neg b,if_pos c,if_neg d] at hg;simp at hg
   ·split
    ·split
     ·refine ⟨by simp only;omega,?_⟩
      simp only [encN]
      rw [if_neg (by omega),if_neg (by omega),if_neg (by omega),g0,g1 (by omega),g2 (by omega),g3 (by omega)]
      simp only [List.cons_append,List.nil_append,List.cons.injEq]
      exact ⟨by omega,by omega,by omega,by omega,trivial⟩
     ·rename_i a b c d e;rw [if_neg a,if_neg b,if_neg c,if_pos d,if_neg e] at hg;simp at hg
    ·rename_i a b c d;rw [if_neg a,if_neg b,if_neg c,if_neg d] at hg;simp at hg
end Go.Proofs.YtgjokdngbocehaaGreatDoor
namespace Go.Proofs.YtgjokdngbocehaaGreatDoor
open Go.RowKit
theorem disable (w:World):(callFunc 176 #[]).run Tryz.prog w = .ok (.value (.tuple #[])) w:=run_call_mark0 Tryz.func176 (by kernel_rfl) (by kernel_rfl) (by kernel_rfl) .disable (by kernel_rfl) w
theorem enable (w:World):(callFunc 178 #[]).run Tryz.prog w = .ok (.value (.tuple #[])) w:=run_call_mark0 Tryz.func178 (by kernel_rfl) (by kernel_rfl) (by kernel_rfl) .enable (by kernel_rfl) w
theorem acquire (a:Addr) (w:World):(callFunc 179 #[.pointer (some a)]).run Tryz.prog w = .ok (.value (.tuple #[])) w:=run_call_marked Tryz.func179 (by kernel_rfl) (by kernel_rfl) (by kernel_rfl) .acquire (by kernel_rfl) a w
theorem releaseMerge (a:Addr) (w:World):(callFunc 181 #[.pointer (some a)]).run Tryz.prog w = .ok (.value (.tuple #[])) w:=run_call_marked Tryz.func181 (by kernel_rfl) (by kernel_rfl) (by kernel_rfl) .releaseMerge (by kernel_rfl) a w
theorem store_deferred (a:Addr) (x:Value) (u:FrameMode) (w:World) (hc:w.cell? a = some x) (hz:w.frozen? a = false) :
  CallsD Tryz.prog 161 #[.pointer (some a),.bool true] u w fun e u' w'=>u' = u ∧ (e = .returned (.tuple #[]) ∧ w' = w.drew.setCell a (.int .u32 1)):=by
 have hc':w.drew.cell? a = some x:=by go_simp
 have hz':w.drew.frozen? a = false:=by go_simp
 have hst:=run_call_store (P:=Tryz.prog) Tryz.func170 (by kernel_rfl) (by kernel_rfl) (by kernel_rfl) (by kernel_rfl) (k:=.u32) (y:=1) hc' hz'
 go_enter_d Tryz.func161,Tryz.ntmps161
 go_wp2
 go_region_calls
 all_goals (go_end0;exact ⟨rfl,rfl⟩)
set_option maxRecDepth 100000 in
theorem unlock_deferred (a:Addr) (u:FrameMode) (w:World) (hc:w.cell? a = some (.int .i32 1)) (hz:w.frozen? a = false) :
  CallsD Tryz.prog 160 #[.pointer (some a)] u w fun e u' w'=>u' = u ∧ (e = .returned (.tuple #[]) ∧ w' = w.setCell a (.int .i32 0)):=by
 have hd:=disable
 have he:=enable
 have hr:=releaseMerge
 have hadd:=run_call_add (P:=Tryz.prog) Tryz.func182 (by kernel_rfl) (by kernel_rfl) (by kernel_rfl) .i32 (by kernel_rfl) (y:=-1) (s:=0) hc hz (by simp [go_sem];rfl)
 have hcv:=run_convert_to_unsafe (P:=Tryz.prog) (src:=274) (dst:=193) Tryz.underlying274 Tryz.underlying193 (by kernel_rfl) hc
 go_enter_d Tryz.func160,Tryz.ntmps160
 go_wp2
 go_end0
 go_wp2
 go_end0
 exact ⟨rfl,rfl⟩
set_option maxRecDepth 100000 in
theorem lock_free (a:Addr) (w:World) (hc:w.cell? a = some (.int .i32 0)) (hz:w.frozen? a = false) :
  Calls Tryz.prog 159 #[.pointer (some a)] w fun e w'=>e = .returned (.tuple #[]) ∧ w' = w.setCell a (.int .i32 1):=by
 have hd:=disable
 have he:=enable
 have ha:=acquire
 have hcas:=run_call_cas_hit (P:=Tryz.prog) Tryz.func177 (by kernel_rfl) (by kernel_rfl) (by kernel_rfl) .i32 (by kernel_rfl) (y:=1) hc hz
 have hc':(w.setCell a (.int .i32 1)).cell? a = some (.int .i32 1):=World.cell?_setCell_same w a _ hc
 have hcv:=run_convert_to_unsafe (P:=Tryz.prog) (src:=274) (dst:=193) Tryz.underlying274 Tryz.underlying193 (by kernel_rfl) hc'
 go_enter Tryz.func159,Tryz.ntmps159
 go_wp2
 first | go_end0 | (simp only [Exit.inBlock,Exit.then];refine bodyPost_ret (results_none rfl _ _ _) rfl ?_) | refine bodyPost_ret (results_none rfl _ _ _) rfl ?_
 go_wp2
 go_end0
 exact ⟨rfl,rfl⟩
set_option maxRecDepth 100000 in
set_option maxHeartbeats 1600000 in
theorem doSlow_any (b:Nat) (first:Array Value) (x3 x4:Value) (T:TypeId) (Q:World → Prop) (w:World)
  (hw:w.heap[b]? = some (.cells #[.int .u32 0,.int .i32 0,.int .u32 0,x3,x4] T (0,0)))
  (hcall:Calls Tryz.prog 149 first (w.setCell ⟨b,1,none⟩ (.int .i32 1)) fun e w2=>e = .returned (.tuple #[]) ∧ Q w2)
  (hQ:∀ w2,Q w2 → ∃ y3 y4,w2.heap[b]? = some (.cells #[.int .u32 0,.int .i32 1,.int .u32 0,y3,y4] T (0,0))) :
  Calls Tryz.prog 154 #[.pointer (some ⟨b,0,none⟩),  .func (.func 149) first #[]] w fun e w'=>e = .returned (.tuple #[]) ∧
   ∃ w2,Q w2 ∧ w' = (w2.drew.setCell ⟨b,0,none⟩ (.int .u32 1)).setCell ⟨b,1,none⟩ (.int .i32 0):=by
 have c0:=cell_heap (i:=0) hw
 have c1:=cell_heap (i:=1) hw
 have f1:=frozen_heap (i:=1) hw
 simp only [List.getElem?_toArray,List.getElem?_cons_zero,List.getElem?_cons_succ] at c0 c1
 have hl:=run_call_load (P:=Tryz.prog) Tryz.func158 (by kernel_rfl) (by kernel_rfl) (by kernel_rfl) .u32 (by kernel_rfl) (w:=w.setCell ⟨b,1,none⟩ (.int .i32 1)) (a:=⟨b,0,none⟩) (x:=0) ((World.cell?_setCell_other _ ⟨b,1,none⟩ ⟨b,0,none⟩ _ (by simp)).trans c0)
 have hnot:∀ (x:Bool) (w:World),(Op.unary .not (.bool x)).run Tryz.prog w = .ok (.bool (!x)) w:=fun _ _=>rfl
 have HC:=Lib.hid hcall
 have HQ:=Lib.hid hQ
 clear hcall hQ
 go_enter_defers Tryz.func154,Tryz.ntmps154
 go_wp2_with (first | (go_at_call 159;refine (lock_free ⟨b,1,none⟩ _ (by first | assumption | go_simp) (by first | assumption | go_simp)).mono ?_;rintro e w' ⟨rfl,rfl⟩) | (go_at_call 153;go_in))
 refine HC.out.mono ?_
 rintro e w2 ⟨rfl,hq⟩
 obtain ⟨y3,y4,h2⟩:=HQ.out w2 hq
 have HQ2:=Lib.hid hq
 clear hq hl c0 c1 f1 hw
 have H2:=Lib.hid h2
 clear h2
 go_wp2
 have h2:=H2.out
 have h3:=setCell_heap (i:=0) h2 (.int .u32 1)
 refine leaves_cons (f:=161) (args:=#[.pointer (some ⟨b,0,none⟩),.bool true]) (by simp) (by simp [go_sem]) ?_
 refine (store_deferred ⟨b,0,none⟩ (.int .u32 0) .returning _ (by rw [cell_heap h2];rfl) (frozen_heap h2)).mono ?_
 rintro e u' w'' ⟨rfl,rfl,rfl⟩
 refine leaves_cons (f:=160) (args:=#[.pointer (some ⟨b,1,none⟩)]) (by simp [settle]) (by simp [go_sem]) ?_
 refine (unlock_deferred ⟨b,1,none⟩ _ _ (by have:=setCell_heap (w:=w2.drew) (i:=0) h2 (.int .u32 1);rw [cell_heap this];rfl) (by have:=setCell_heap (w:=w2.drew) (i:=0) h2 (.int .u32 1);exact frozen_heap this)).mono ?_
 rintro e u' w'' ⟨rfl,rfl,rfl⟩
 simp [Leaves,settle,results,Tryz.results154]
 exact ⟨w2,HQ2,rfl⟩
set_option maxRecDepth 100000 in
set_option maxHeartbeats 1600000 in
theorem Do_any (b:Nat) (first:Array Value) (x3 x4:Value) (T:TypeId) (Q:World → Prop) (w:World)
  (hw:w.heap[b]? = some (.cells #[.int .u32 0,.int .i32 0,.int .u32 0,x3,x4] T (0,0)))
  (hcall:Calls Tryz.prog 149 first (w.setCell ⟨b,1,none⟩ (.int .i32 1)) fun e w2=>e = .returned (.tuple #[]) ∧ Q w2)
  (hQ:∀ w2,Q w2 → ∃ y3 y4,w2.heap[b]? = some (.cells #[.int .u32 0,.int .i32 1,.int .u32 0,y3,y4] T (0,0))) :
  Calls Tryz.prog 148 #[.pointer (some ⟨b,0,none⟩),  .func (.func 149) first #[]] w fun e w'=>e = .returned (.tuple #[]) ∧
   ∃ w2,Q w2 ∧ w' = (w2.drew.setCell ⟨b,0,none⟩ (.int .u32 1)).setCell ⟨b,1,none⟩ (.int .i32 0):=by
 have c0:=cell_heap (i:=0) hw
 simp only [List.getElem?_toArray,List.getElem?_cons_zero] at c0
 have hl:=run_call_load (P:=Tryz.prog) Tryz.func158 (by kernel_rfl) (by kernel_rfl) (by kernel_rfl) .u32 (by kernel_rfl) (w:=w) (a:=⟨b,0,none⟩) (x:=0) c0
 have hnot:∀ (x:Bool) (w:World),(Op.unary .not (.bool x)).run Tryz.prog w = .ok (.bool (!x)) w:=fun _ _=>rfl
 have HS:=Lib.hid (doSlow_any b first x3 x4 T Q w hw hcall hQ)
 clear hcall hQ hw c0
 go_enter Tryz.func148,Tryz.ntmps148
 go_wp2_with (first | (go_at_call 154;refine HS.out.mono ?_;rintro e w' ⟨rfl,hq⟩) | (go_at_call 153;go_in))
 go_end0
 exact ⟨rfl,hq⟩
end Go.Proofs.YtgjokdngbocehaaGreatDoor
namespace Go.Proofs.YtgjokdngbocehaaGreatDoor
open Go.RowKit
section
variable {P:Program} {ops:Array Oper} {rest:List Oper} {o:Oper} {a:Act} {w:World} {Q:Exit → Act → World → Prop}
theorem wpList_val (hg:o.guard = none) {v:Value} {w':World} (h:(execOp a.eval o).run P w = .ok (.value v) w') (k:wpList P ops Q rest (a.put o.dst v) w') :
  wpList P ops Q (o :: rest) a w :=
 wpList_plain hg fun _ hK=>by unfold Oper.wp;rw [h];exact hK _ _ k
theorem wpList_build (hg:o.guard = none) (t:TypeId) (parts:List (Nat × Operand)) (ho:o.op = .build t parts.toArray) {v:Value}
  (h:(Instr.build t (parts.map fun p=>(p.1,a.eval p.2)).toArray).run P w = .ok v w) (k:wpList P ops Q rest (a.put o.dst v) w):wpList P ops Q (o :: rest) a w :=
 wpList_val hg (by unfold execOp;simp only [ho,List.map_toArray,Sem.run_bind,h,Result.andThen_ok];rfl) k
theorem run_typeInfo' {t:TypeId} {i:TypeInfo} (h:P.info? t = some i):(typeInfo t).run P w = .ok i w:=by
 simp [typeInfo,program,Sem.run,h]
theorem wpList_alloc (hg:o.guard = none) (t:TypeId) (ho:o.op = .alloc t) {i:TypeInfo} (hi:P.info? t = some i) {z:Value} (hz:i.zero = some z)
  (k:wpList P ops Q rest (a.put o.dst (.pointer (some ⟨w.heap.size,0,none⟩))) (w.alloc (.cells z.cells t))):wpList P ops Q (o :: rest) a w:=by
 refine wpList_val hg (v:=.pointer (some ⟨w.heap.size,0,none⟩)) (w':=w.alloc (.cells z.cells t)) ?_ k
 unfold execOp
 simp only [ho,Instr.alloc,zeroValue,Sem.run_bind,run_typeInfo' hi,Result.andThen_ok,hz]
 rfl
theorem setIfInBounds_pre (A C:List Value) (v u:Value):(A ++ u :: C).toArray.setIfInBounds A.length v = (A ++ v :: C).toArray:=by
 simp [List.setIfInBounds_toArray]
theorem setCells_whole (b:Nat) (t:TypeId) (vs:List Value):∀ (w:World) (pre old:List Value),w.heap[b]? = some (.cells (pre ++ old).toArray t (0,0)) → old.length = vs.length →
  (w.setCells b pre.length vs).heap[b]? = some (.cells (pre ++ vs).toArray t (0,0)) ∧ (∀ j,j ≠ b → (w.setCells b pre.length vs).heap[j]? = w.heap[j]?) ∧ (w.setCells b pre.length vs).heap.size = w.heap.size ∧ (w.setCells b pre.length vs).os = w.os ∧ (w.setCells b pre.length vs).tape = w.tape ∧ (w.setCells b pre.length vs).output = w.output ∧ (w.setCells b pre.length vs).drawn = w.drawn:=by
 induction vs with
 | nil =>
  intro w pre old hb hl
  obtain rfl:old = []:=by simpa using hl
  exact ⟨hb,fun _ _=>rfl,rfl,rfl,rfl,rfl,rfl⟩
 | cons v vs ih =>
  intro w pre old hb hl
  cases old with
  | nil=>simp at hl
  | cons u old =>
   have h1:=setCell_heap (i:=pre.length) hb v
   have h2:(pre ++ u :: old).toArray.setIfInBounds pre.length v = ((pre ++ [v]) ++ old).toArray:=by
    rw [setIfInBounds_pre pre old v u];simp
   rw [h2] at h1
   have h3:=ih (w.setCell ⟨b,pre.length,none⟩ v) (pre ++ [v]) old h1 (by simpa using hl)
   rw [List.length_append,List.length_singleton] at h3
   rw [World.setCells]
   obtain ⟨a1,a2,a3,a4,a5,a6,a7⟩:=h3
   refine ⟨by simpa using a1,fun j hj=>(a2 j hj).trans (Below.heap_setCell _ _ _ _ hj),a3.trans (by simp [World.setCell]),a4,a5,a6,a7⟩
theorem world_ext {w w':World} (h1:w.heap = w'.heap) (h2:w.tape = w'.tape) (h3:w.drawn = w'.drawn) (h4:w.os = w'.os) (h5:w.output = w'.output):w = w':=by
 cases w;cases w';simp_all
theorem setCells_alloc (w:World) (z c:Array Value) (t:TypeId) (h:z.size = c.size):(w.alloc (.cells z t)).setCells w.heap.size 0 c.toList = w.alloc (.cells c t):=by
 have hb:(w.alloc (.cells z t)).heap[w.heap.size]? = some (.cells ([] ++ z.toList).toArray t (0,0)):=by
  rw [heap_alloc_new];simp
 obtain ⟨a1,a2,a3,a4,a5,a6,a7⟩:=setCells_whole w.heap.size t c.toList (w.alloc (.cells z t)) [] z.toList hb (by simpa using h)
 simp only [List.length_nil] at a1 a2 a3 a4 a5 a6 a7
 refine world_ext ?_ a5 a7 a4 a6
 apply Array.ext_getElem?
 intro j
 by_cases hj:j = w.heap.size
 ·subst hj
  rw [a1,heap_alloc_new]
  simp
 ·rw [a2 j hj]
  by_cases hl:j < w.heap.size
  ·rw [Below.heap_alloc _ _ _ hl,Below.heap_alloc _ _ _ hl]
  ·rw [Array.getElem?_eq_none (by simp;omega),Array.getElem?_eq_none (by simp;omega)]
theorem wpList_new (o1 o2 o3:Oper) (g1:o1.guard = none) (g2:o2.guard = none) (g3:o3.guard = none) (t:TypeId) (parts:List (Nat × Operand)) (d1 d2:Tmp)
  (h1:o1.op = .build t parts.toArray) (h2:o2.op = .alloc t) (h3:o3.op = .store t (.tmp d2) (.tmp d1)) (e1:o1.dst = some d1) (e2:o2.dst = some d2) (e3:o3.dst = none) (hne:d2 ≠ d1)
  (l1:d1 < a.tmps.size) (l2:d2 < a.tmps.size)
  {c:Array Value} (hb:(Instr.build t (parts.map fun p=>(p.1,a.eval p.2)).toArray).run P w = .ok (.agg c) w)
  {i:TypeInfo} (hi:P.info? t = some i) {z:Array Value} (hz:i.zero = some (.agg z)) (hsz:i.size = c.size) (hzc:z.size = c.size) (h1c:c.all (·.oneCell') = true)
  (k:wpList P ops Q rest ((a.put (some d1) (.agg c)).put (some d2) (.pointer (some ⟨w.heap.size,0,none⟩))) (w.alloc (.cells c t))) :
  wpList P ops Q (o1 :: o2 :: o3 :: rest) a w:=by
 refine wpList_build g1 t parts h1 hb ?_
 refine wpList_alloc g2 t h2 hi hz ?_
 rw [e1,e2]
 have ev2:∀ b:Act,d2 < b.tmps.size → ∀ v,(b.put (some d2) v).eval (.tmp d2) = v:=fun b hb v=>by simp [Act.put,Act.eval,Array.getD,hb]
 refine wpList_store_mid g3 t (.tmp d2) (.tmp d1) h3 w.heap.size 0 c ?_ ?_ ?_ ?_ h1c ?_
 ·simp [Act.put,Act.eval,Array.getD,l2]
 ·simp [Act.put,Act.eval,Array.getD,l1,hne]
 ·intro j hj
  have hc:(w.alloc (.cells z t)).cell? ⟨w.heap.size,0 + j,none⟩ = z[0 + j]?:=cell_heap (heap_alloc_new w _)
  refine ⟨?_,frozen_heap (heap_alloc_new w _)⟩
  rw [show Value.cells (.agg z) = z from rfl,hc,Nat.zero_add,Array.getElem?_eq_getElem (by omega)]
  rfl
 ·rw [hi];simp [hsz]
 ·rw [show Value.cells (.agg z) = z from rfl,setCells_alloc w z c t hzc,e3]
  exact k
end
end Go.Proofs.YtgjokdngbocehaaGreatDoor
namespace Go.Proofs.YtgjokdngbocehaaGreatDoor
open Go.RowKit
def str1 (o:UInt8):ByteArray:=⟨#[o]⟩
def strsOf (ps:List (UInt8 × ByteArray)):List Value:=ps.flatMap fun p=>[.string (str1 p.1),.string p.2]
theorem strsOf_length (ps:List (UInt8 × ByteArray)):(strsOf ps).length = 2 * ps.length:=by
 induction ps with
 | nil=>rfl
 | cons p ps ih=>simp [strsOf] at ih ⊢;omega
theorem strsOf_at (ps:List (UInt8 × ByteArray)):∀ j,(h:j < ps.length) → (strsOf ps)[2 * j]? = some (.string (str1 ps[j].1)) ∧ (strsOf ps)[2 * j + 1]? = some (.string ps[j].2):=by
 induction ps with
 | nil=>intro j h;simp at h
 | cons p ps ih =>
  intro j h
  cases j with
  | zero=>simp [strsOf]
  | succ j =>
   have:=ih j (by simpa using h)
   simpa [strsOf,Nat.mul_succ] using this
def look (ps:List (UInt8 × ByteArray)) (o:UInt8):Option ByteArray:=(ps.find? fun p=>p.1 == o).map (·.2)
def Ent (w:World) (v:Value):Option ByteArray → Prop
 | none=>v = .slice none 0 0
 | some n=>∃ h c,v = .slice (some ⟨h,0,none⟩) n.size c ∧ Sl w (some ⟨h,0,none⟩) n.size (bytesV n)
theorem Ent.keep {w w':World} {v:Value} {x:Option ByteArray} (h:Ent w v x) (hk:∀ k,v.ownBlock = some k → w'.heap[k]? = w.heap[k]?):Ent w' v x:=by
 cases x with
 | none=>exact h
 | some n =>
  obtain ⟨k,c,rfl,hs⟩:=h
  exact ⟨k,c,rfl,hs.keep fun b o e=>by injection e with e;injection e with e1 e2;subst e1;exact hk _ rfl⟩
theorem strs_cells {w:World} {a:Option Addr} {n:Nat} {ps:List (UInt8 × ByteArray)} (hs:Sl w a n (strsOf ps)) (h0:0 < ps.length) :
  ∃ b o,a = some ⟨b,o,none⟩ ∧ b < w.heap.size ∧ ∀ j,(hj:j < ps.length) → w.cell? ⟨b,o + 2 * j,none⟩ = some (.string (str1 ps[j].1)) ∧ w.cell? ⟨b,o + (2 * j + 1),none⟩ = some (.string ps[j].2):=by
 obtain ⟨b,o,rfl,hb,_⟩:=hs.cell 0 (by rw [strsOf_length];omega)
 refine ⟨b,o,rfl,hb,fun j hj=>?_⟩
 obtain ⟨e1,e2⟩:=strsOf_at ps j hj
 have key:∀ i v,(strsOf ps)[i]? = some v → w.cell? ⟨b,o + i,none⟩ = some v:=by
  intro i v hv
  obtain ⟨hi,hv2⟩:=List.getElem?_eq_some_iff.1 hv
  obtain ⟨b',o',e,_,hc⟩:=hs.cell i hi
  injection e with e
  injection e with e3 e4
  subst e3
  subst e4
  rw [hc,hv2]
 exact ⟨key _ _ e1,key _ _ e2⟩
def tab0 (v:Value):Array Value:=(Array.replicate 256 (.slice none 0 0)).push v
theorem tab0_size (v:Value):(tab0 v).size = 257:=by simp [tab0]
theorem tab0_one (a:Option Addr) (n c:Nat):(tab0 (.slice a n c)).all (·.oneCell') = true:=by
 rw [Array.all_eq_true_iff_forall_mem]
 intro v hv
 simp only [tab0,Array.mem_push,Array.mem_replicate] at hv
 rcases hv with ⟨_,rfl⟩ | rfl <;> rfl
theorem build_tab (a:Option Addr) (n c:Nat) (w:World):(Instr.build 255 #[(1,.slice a n c)]).run Tryz.prog w = .ok (.agg (tab0 (.slice a n c))) w:=by kernel_rfl
theorem info_tab:(Tryz.prog.info? 255).map (fun i=>(i.zero,i.size)) = some (some (.agg (tab0 (.slice none 0 0))),257):=by kernel_rfl
theorem info_str:(Tryz.prog.info? 9).map (fun i=>(i.zero,i.size,i.bytes)) = some (some (.string ByteArray.empty),1,16):=by kernel_rfl
theorem info_parts2 {P:Program} {e:TypeId} {z:Value} {size:Nat} (h:(P.info? e).map (fun i=>(i.zero,i.size)) = some (some z,size)) :
  ∃ i,P.info? e = some i ∧ i.zero = some z ∧ i.size = size:=by
 cases hi:P.info? e with
 | none=>rw [hi] at h;cases h
 | some i=>rw [hi] at h;simp at h;exact ⟨i,rfl,h.1,h.2⟩
theorem look_cons (p:UInt8 × ByteArray) (ps:List (UInt8 × ByteArray)) (o:UInt8):look (p :: ps) o = if p.1 = o then some p.2 else look ps o:=by
 unfold look
 by_cases h:p.1 = o
 ·rw [List.find?_cons_of_pos (by simp [h]),if_pos h];rfl
 ·rw [List.find?_cons_of_neg (by simp [h]),if_neg h]
theorem look_none (ps:List (UInt8 × ByteArray)) (o:UInt8) (h:o ∉ ps.map (·.1)):look ps o = none:=by
 induction ps with
 | nil=>rfl
 | cons p ps ih =>
  simp only [List.map_cons,List.mem_cons,not_or] at h
  rw [look_cons,if_neg (fun e=>h.1 e.symm),ih h.2]
structure BuildInv (w wr:World) (G:Nat) (ps:List (UInt8 × ByteArray)):Prop where
 below:Below w.heap.size w wr
 lt:w.heap.size < G
 tab:∃ (C:Array Value) (v:Value),wr.heap[G]? = some (.cells C 255 (0,0)) ∧ C.size = 257 ∧ C[256]? = some v ∧ wr.ownsRow w.heap.size 9 1 v ps.length (ps.reverse.map fun p=>Value.string (str1 p.1)) ∧ v.ownBlock ≠ some G ∧
  (∀ o:UInt8,∃ u,C[o.toNat]? = some u ∧ Ent wr u (look ps o) ∧ ∀ h,u.ownBlock = some h → v.ownBlock ≠ some h ∧ h ≠ G ∧ h < wr.heap.size ∧ w.heap.size ≤ h)
theorem BuildInv.step {w wr w2 w3 w4:World} {G:Nat} {ps:List (UInt8 × ByteArray)} {o:UInt8} {nn:ByteArray} {C:Array Value} {v v3 u4:Value}
  (below:Below w.heap.size w wr) (lt:w.heap.size < G) (hG:wr.heap[G]? = some (.cells C 255 (0,0))) (hC:C.size = 257)
  (hvG:v.ownBlock ≠ some G)
  (ents:∀ o:UInt8,∃ u,C[o.toNat]? = some u ∧ Ent wr u (look ps o) ∧ ∀ h,u.ownBlock = some h → v.ownBlock ≠ some h ∧ h ≠ G ∧ h < wr.heap.size ∧ w.heap.size ≤ h)
  (hold:∀ k,v.ownBlock = some k → w.heap.size ≤ k)
  (h2:Below wr.heap.size wr w2) (h3:App w2 w3 v v3) (own3:w3.ownsRow w.heap.size 9 1 v3 (ps.length + 1) (ps.reverse.map (fun p=>Value.string (str1 p.1)) ++ [.string (str1 o)]))
  (h4:Below w3.heap.size (w3.setCell ⟨G,256,none⟩ v3) w4) (hu4:Ent w4 u4 (some nn)) (hub:∀ h,u4.ownBlock = some h → w3.heap.size ≤ h ∧ h < w4.heap.size) :
  BuildInv w (w4.setCell ⟨G,o.toNat,none⟩ u4) G ((o,nn) :: ps):=by
 have hGl:=heap_lt hG
 have hG2:w2.heap[G]? = some (.cells C 255 (0,0)):=(h2.block G hGl).trans hG
 have hGl2:=heap_lt hG2
 have hG3:w3.heap[G]? = some (.cells C 255 (0,0)):=(h3.keep hGl2 hvG).trans hG2
 have hGl3:=heap_lt hG3
 have hvG3:=h3.ne hGl2 hvG
 have hG4:w4.heap[G]? = some (.cells (C.setIfInBounds 256 v3) 255 (0,0)):=(h4.block G hGl3).trans (setCell_heap hG3 v3)
 have hG5:=setCell_heap (i:=o.toNat) hG4 u4
 have ho:o.toNat < 256:=o.toNat_lt
 have hsz2:wr.heap.size ≤ w2.heap.size:=h2.size
 have hsz3:w2.heap.size ≤ w3.heap.size:=h3.grown.size
 have hsz4:w3.heap.size ≤ w4.heap.size:=by have:=h4.size;simpa [World.setCell] using this
 have keep:∀ k,k < wr.heap.size → v.ownBlock ≠ some k → k ≠ G → (w4.setCell ⟨G,o.toNat,none⟩ u4).heap[k]? = wr.heap[k]?:=by
  intro k hk hv hkG
  rw [Below.heap_setCell _ _ _ _ hkG,h4.block k (by omega),Below.heap_setCell _ _ _ _ hkG,h3.keep (by omega) hv,h2.block k hk]
 refine ⟨?_,lt,(C.setIfInBounds 256 v3).setIfInBounds o.toNat u4,v3,hG5,by simp [hC],?_,?_,hvG3,?_⟩
 ·have b2:Below w.heap.size w w2:=below.trans (h2.mono below.size)
  have b3:Below w.heap.size w w3:=b2.trans (h3.below (by have:=below.size;omega) hold)
  have b4:Below w.heap.size w w4:=(b3.setCell (p:=⟨G,256,none⟩) (by show w.heap.size ≤ G;omega) v3).trans (h4.mono (by have:=below.size;simp;omega))
  exact b4.setCell (p:=⟨G,o.toNat,none⟩) (by show w.heap.size ≤ G;omega) u4
 ·rw [Array.getElem?_setIfInBounds_ne (by omega)]
  simp [hC]
 ·have e:((o,nn) :: ps).reverse.map (fun p=>Value.string (str1 p.1)) = ps.reverse.map (fun p=>Value.string (str1 p.1)) ++ [.string (str1 o)]:=by simp
  rw [e]
  refine own_block own3 fun k hk=>?_
  have hkl:=own3.lt k hk
  have hkG:k ≠ G:=fun e=>hvG3 (by rw [hk,e])
  rw [Below.heap_setCell _ _ _ _ hkG,h4.block k hkl.2,Below.heap_setCell _ _ _ _ hkG]
 ·intro q
  by_cases hq:q = o
  ·subst hq
   refine ⟨u4,by simp [hC,Array.getElem?_setIfInBounds];omega,?_,?_⟩
   ·rw [look_cons,if_pos rfl]
    exact hu4.keep fun k hk=>Below.heap_setCell _ _ _ _ (show k ≠ G by have:=hub k hk;omega)
   ·intro h hh
    have hb:=hub h hh
    refine ⟨fun e=>?_,by omega,by simpa [World.setCell] using hb.2,by have:=below.size;omega⟩
    have:=own3.lt h e
    omega
  ·have hqo:q.toNat ≠ o.toNat:=fun e=>hq (UInt8.toNat_inj.1 e)
   have hq256:q.toNat < 256:=q.toNat_lt
   obtain ⟨u,hu,he,hb⟩:=ents q
   refine ⟨u,?_,?_,?_⟩
   ·rw [Array.getElem?_setIfInBounds_ne (by omega),Array.getElem?_setIfInBounds_ne (by omega)];exact hu
   ·rw [look_cons,if_neg (fun e=>hq e.symm)]
    exact he.keep fun k hk=>keep k (hb k hk).2.2.1 (hb k hk).1 (hb k hk).2.1
   ·intro h hh
    obtain ⟨h1,h2',h3',h4'⟩:=hb h hh
    refine ⟨h3.ne (by omega) h1,h2',?_,h4'⟩
    simp only [World.setCell,Array.size_modify]
    omega
end Go.Proofs.YtgjokdngbocehaaGreatDoor
