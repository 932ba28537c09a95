/-
  The plain law of names' order: of good texts the order of characters is that of the bytes.
-/
import Derived.Lib.FrozenHead
import Derived.Lib.UnsafeStr
import Derived.Deep.RegionHeld3
import Derived.Test.YtgjokdngbocehaaGreatDoorRows
import Derived.ChangeArms
import Derived.DataReads
import Derived.Test.YtgjokdngbocehaaGreatDoorHsA
import Derived.Test.YtgjokdngbocehaaGreatDoorHsB
import Derived.Test.YtgjokdngbocehaaGreatDoorHsC
namespace Go.Proofs.YtgjokdngbocehaaGreatDoor
open Go.RowKit
def goodF (s:ByteArray):Nat → Nat → Bool
 | 0,_=>true
 | f + 1,p=>if p < s.size then !((Utf8.decode s p).1 == 65533 && (Utf8.decode s p).2 == 1) && goodF s f (p + (Utf8.decode s p).2) else true
theorem goodF_fuel (s:ByteArray) (f:Nat):∀ (g p:Nat),s.size - p ≤ f → s.size - p ≤ g → goodF s f p = goodF s g p:=by
 induction f with
 | zero =>
  intro g p hf _
  cases g with
  | zero=>rfl
  | succ g=>simp only [goodF];rw [if_neg (by omega)]
 | succ f ih =>
  intro g p hf hg
  cases g with
  | zero=>simp only [goodF];rw [if_neg (by omega)]
  | succ g =>
   simp only [goodF]
   by_cases h:p < s.size
   ·have:=width_pos s p h
    rw [if_pos h,if_pos h,ih g _ (by omega) (by omega)]
   ·rw [if_neg h,if_neg h]
def goodAt (s:ByteArray) (p:Nat):Bool:=goodF s (s.size - p) p
theorem goodAt_step (s:ByteArray) (p:Nat) (h:p < s.size):goodAt s p = (!((Utf8.decode s p).1 == 65533 && (Utf8.decode s p).2 == 1) && goodAt s (p + (Utf8.decode s p).2)):=by
 have hw:=width_pos s p h
 unfold goodAt
 obtain ⟨f,hf⟩:∃ f,s.size - p = f + 1:=⟨s.size - p - 1,by omega⟩
 rw [hf]
 simp only [goodF]
 rw [if_pos h,goodF_fuel s f (s.size - (p + (Utf8.decode s p).2)) _ (by omega) (by omega)]
theorem bytesN_cons (s:ByteArray) (p:Nat) (h:p < s.size):∃ a x,bytesN s p = a :: x:=⟨_,_,get_nat s p h⟩
theorem cmp_bytes (s t:ByteArray) (f:Nat):∀ (p q:Nat),s.size - p ≤ f → goodAt s p = true → goodAt t q = true →
  cmpL (runesAt s p) (runesAt t q) = if natLess (bytesN s p) (bytesN t q) = true then -1 else if natLess (bytesN t q) (bytesN s p) = true then 1 else 0:=by
 induction f with
 | zero =>
  intro p q hf _ _
  rw [runesAt_end s p (by omega),bytesN_end s p (by omega)]
  by_cases h:q < t.size
  ·obtain ⟨a,x,e⟩:=bytesN_cons t q h
   rw [runesAt_step t q h,e];rfl
  ·rw [runesAt_end t q h,bytesN_end t q h];rfl
 | succ f ih =>
  intro p q hf hs ht
  by_cases h:p < s.size
  ·by_cases k:q < t.size
   ·rw [goodAt_step s p h] at hs
    rw [goodAt_step t q k] at ht
    simp only [Bool.and_eq_true,Bool.not_eq_true',Bool.and_eq_false_iff,beq_eq_false_iff_ne] at hs ht
    obtain ⟨c1,e1⟩:=decode_good s p h (by omega)
    obtain ⟨c2,e2⟩:=decode_good t q k (by omega)
    have hw:=width_pos s p h
    have:=ih (p + (Utf8.decode s p).2) (q + (Utf8.decode t q).2) (by omega) hs.2 ht.2
    rw [runesAt_step s p h,runesAt_step t q k,e1,e2]
    simp only [cmpL]
    generalize (Utf8.decode s p).1 = r at *
    generalize (Utf8.decode t q).1 = r' at *
    by_cases hlt:r < r'
    ·rw [if_pos (by omega),encN_lt _ _ _ _ hlt];rfl
    ·by_cases hgt:r' < r
     ·rw [if_neg (by omega),if_pos (by omega),encN_gt _ _ _ _ hgt,encN_lt _ _ _ _ hgt];rfl
     ·obtain rfl:r = r':=by omega
      rw [if_neg (by omega),if_neg (by omega),natLess_app,natLess_app]
      exact this
   ·obtain ⟨a,x,e⟩:=bytesN_cons s p h
    rw [runesAt_step s p h,runesAt_end t q k,e,bytesN_end t q k];rfl
  ·rw [runesAt_end s p h,bytesN_end s p h]
   by_cases k:q < t.size
   ·obtain ⟨a,x,e⟩:=bytesN_cons t q k
    rw [runesAt_step t q k,e];rfl
   ·rw [runesAt_end t q k,bytesN_end t q k];rfl
theorem less_bytes (s t:ByteArray):Op.bytesLess s.toList t.toList = natLess (bytesN s 0) (bytesN t 0):=by
 rw [bytesLess_nat,ByteArray.toList_eq,ByteArray.toList_eq];simp [bytesN]
theorem cmp_less (s t:ByteArray) (hs:goodAt s 0 = true) (ht:goodAt t 0 = true) :
  cmpL (runesOf s) (runesOf t) = if Op.bytesLess s.toList t.toList = true then -1 else if Op.bytesLess t.toList s.toList = true then 1 else 0:=by
 rw [← runesAt_zero,← runesAt_zero,less_bytes,less_bytes]
 exact cmp_bytes s t s.size 0 0 (by omega) hs ht
theorem goodF_valid (l:List UInt8) (f:Nat):∀ p,Lib.validGoD f (l.drop p) = true → l.length - p ≤ f → goodF (strU l) f p = true:=by
 induction f with
 | zero=>intro p _ _;rfl
 | succ f ih =>
  intro p h hf
  simp only [goodF,Lib.validGoD] at h ⊢
  by_cases hp:p < (strU l).size
  ·rw [if_pos hp]
   have hne:l.drop p ≠ []:=by
    intro e
    have:=congrArg List.length e
    rw [List.length_drop] at this
    rw [strU_size] at hp
    simp at this;omega
   rw [if_neg hne,decodeL_dec,decL_str] at h
   have hw:=width_pos (strU l) p hp
   split at h
   ·cases h
   ·rename_i hg
    rw [List.drop_drop] at h
    rw [ih _ h (by omega)]
    simp only [Bool.and_true,Bool.not_eq_true',Bool.and_eq_false_iff,beq_eq_false_iff_ne]
    omega
  ·rw [if_neg hp]
theorem good_valid (l:List UInt8) (h:Lib.validD l = true):goodAt (strU l) 0 = true:=by
 unfold goodAt
 rw [strU_size,Nat.sub_zero]
 exact goodF_valid l l.length 0 (by rw [List.drop_zero];exact h) (by omega)
theorem name_valid (l:List UInt8) (h:nameB l = true):Lib.validD l = true:=by
 unfold nameB at h
 simp only [Bool.and_eq_true] at h
 exact h.2.2
theorem name_cmp (l m:List UInt8) (hl:nameB l = true) (hm:nameB m = true) :
  cmpL (runesOf (strU l)) (runesOf (strU m)) = if Op.bytesLess l m = true then -1 else if Op.bytesLess m l = true then 1 else 0:=by
 have h:=cmp_less (strU l) (strU m) (good_valid l (name_valid l hl)) (good_valid m (name_valid m hm))
 rw [ByteArray.toList_eq,ByteArray.toList_eq,strU_data,strU_data] at h
 exact h
end Go.Proofs.YtgjokdngbocehaaGreatDoor
namespace Go.Proofs.YtgjokdngbocehaaGreatDoor
open Go.RowKit
set_option maxRecDepth 100000 in
set_option maxHeartbeats 1600000 in
theorem Value_any (s:ByteArray) (w:World) (hs:s.size ≤ 1099511627776) :
  Calls Tryz.prog 101 #[.string s] w fun e w'=>e = .returned (.string (replS valuePs s)) ∧ Below w.heap.size w w':=by
 go_enter Tryz.func101,Tryz.ntmps101
 go_wp2_with fail
 have hsl:=sl_of_block (ps:=valuePs) (heap_alloc_new w (.cells (strsOf valuePs).toArray 9))
 refine (New_any valuePs _ _ _ _ hsl (by decide) (by decide)).mono ?_
 rintro e w1 ⟨b,a,n,c,rfl,hb,hs1,hsb,hb1,hble⟩
 have hb1':Below w.heap.size w w1:=((Below.refl _ w).alloc (Nat.le_refl _) (.cells (strsOf valuePs).toArray 9)).trans (hb1.mono (by simp))
 have hble':w.heap.size ≤ b:=by simp at hble;omega
 have HR:=Lib.hid (Replace_any valuePs b a n c s w1 hb hs1 hsb (by decide) (by decide) (by decide) (by decide) (by decide) hs)
 clear hb hs1 hsb hb1 hble hsl
 go_wp2_with fail
 refine HR.out.mono ?_
 rintro e w2 ⟨rfl,hb2⟩
 go_wp2_with fail
 go_ret
 exact ⟨rfl,hb1'.trans (hb2.mono hble')⟩
end Go.Proofs.YtgjokdngbocehaaGreatDoor
namespace Go.Proofs.YtgjokdngbocehaaGreatDoor
open Go.RowKit
abbrev IsB (B b:Nat) (bs:List Value) (w:World):Prop:=Lib.IsBuilderF 138 5 B b bs w
theorem infoBld:(Tryz.prog.info? 138).map (fun i=>i.size) = some 2:=by kernel_rfl
theorem liesBld:liesAt Tryz.prog Tryz.prog.depth 138 (2 / Tryz.prog.cellsOf 138) 0 138 1 = true:=by kernel_rfl
theorem underUP:Tryz.prog.underlying 193 = some .unsafePointer:=by kernel_rfl
theorem infoU8b:(Tryz.prog.info? 5).map (fun i=>(i.zero,i.size,i.bytes)) = some (some (.int .u8 0),1,1):=by kernel_rfl
set_option maxHeartbeats 1000000 in
set_option maxRecDepth 100000 in
theorem copy_used (b:Nat) (w:World) (h0:w.cell? ⟨b,0,none⟩ = some (.pointer (some ⟨b,0,none⟩))) :
  Calls Tryz.prog 100 #[.pointer (some ⟨b,0,none⟩)] w fun e w'=>e = .returned (.tuple #[]) ∧ w' = w:=by
 obtain ⟨j,hj,_⟩:=Option.map_eq_some_iff.1 infoBld
 go_enter Tryz.func100,Tryz.ntmps100
 go_wp2
 rw [Lib.run_neq_ptr_same w _ Tryz.underlying135 hj]
 go_wp2
 go_end0
 exact ⟨rfl,rfl⟩
set_option maxHeartbeats 1000000 in
set_option maxRecDepth 100000 in
theorem copy_fresh (b:Nat) (w:World) (h0:w.cell? ⟨b,0,none⟩ = some (.pointer none)) (hsh:w.shape? b = some (138,2)) (hfz:w.frozen? ⟨b,0,none⟩ = false) :
  Calls Tryz.prog 100 #[.pointer (some ⟨b,0,none⟩)] w fun e w'=>e = .returned (.tuple #[]) ∧ w' = w.setCell ⟨b,0,none⟩ (.pointer (some ⟨b,0,none⟩)):=by
 obtain ⟨j,hj,hjs⟩:=Option.map_eq_some_iff.1 infoBld
 go_enter Tryz.func100,Tryz.ntmps100
 go_wp2
 rw [Lib.run_to_unsafe w ⟨b,0,none⟩ Tryz.underlying135 underUP hj (by rw [hjs];decide) hsh (Nat.zero_lt_succ 1)]
 simp only [Result.andThen]
 rw [Oper.upon_value]
 go_wp2
 rw [run_callFunc_extern Tryz.func128 (by kernel_rfl) (by kernel_rfl) (by kernel_rfl) (e:=Extern.AbiNoEscape.same) (by kernel_rfl)]
 rw [Lib.run_noEscape]
 simp only [Result.andThen]
 rw [Oper.upon_value]
 go_wp2
 rw [Lib.run_from_unsafe w ⟨b,0,none⟩ underUP Tryz.underlying135 hj hsh liesBld]
 simp only [Result.andThen]
 rw [Oper.upon_value]
 go_wp2
 go_end0
 exact ⟨rfl,rfl⟩
theorem copy_any (B b:Nat) (bs:List Value) (w:World) (h:IsB B b bs w) :
  Calls Tryz.prog 100 #[.pointer (some ⟨b,0,none⟩)] w fun e w'=>e = .returned (.tuple #[]) ∧ Lib.BuilderAtF 138 5 B b (.pointer (some ⟨b,0,none⟩)) bs w' ∧ Below B w w':=by
 rcases h with h | h
 ·refine (copy_fresh b w h.cell0 h.shape h.frozen0).mono ?_
  rintro e w' ⟨rfl,rfl⟩
  exact ⟨rfl,h.used _,(Below.refl B w).setCell (p:=⟨b,0,none⟩) h.1 _⟩
 ·refine (copy_used b w h.cell0).mono ?_
  rintro e w' ⟨rfl,rfl⟩
  exact ⟨rfl,h,Below.refl B _⟩
set_option maxHeartbeats 2000000 in
set_option maxRecDepth 100000 in
theorem bwrite_any (B b:Nat) (l:List UInt8) (s:ByteArray) (w:World) (h:IsB B b (u8s l) w) (hlen:l.length + s.size ≤ 140737488355328) (hBw:B ≤ w.heap.size) :
  Calls Tryz.prog 70 #[.pointer (some ⟨b,0,none⟩),.string s] w fun e w'=>e = .returned (.tuple #[.int .i64 s.size,.nilIface]) ∧ IsB B b (u8s (l ++ s.data.toList)) w' ∧ Below B w w':=by
 obtain ⟨i0,hi,h3⟩:=Option.map_eq_some_iff.1 infoU8b
 simp only [Prod.mk.injEq] at h3
 obtain ⟨hz0,hz1,hz2⟩:=h3
 go_enter Tryz.func70,Tryz.ntmps70
 go_wp2_with fail
 refine (copy_any B b (u8s l) w h).mono ?_
 rintro e w1 ⟨rfl,h1,hb1⟩
 obtain ⟨hB,v,hbk,hown,hne⟩:=h1
 have c0:w1.cell? ⟨b,0,none⟩ = some (.pointer (some ⟨b,0,none⟩)):=by rw [Lib.cell_of_heap hbk];rfl
 have c1:w1.cell? ⟨b,1,none⟩ = some v:=by rw [Lib.cell_of_heap hbk];rfl
 have hul:(u8s l).length = l.length:=u8s_length l
 have HUL:=Lib.hid hul
 clear hul
 go_wp2_with (at_builtin;refine Lib.wpList_append_own_stringF _ rfl _ _ 136 9 rfl B 5 i0 Tryz.underlying136 Tryz.underlying9 hi hz0 hz1 hz2 _ _ _ rfl hown s rfl ?c3 ?c4 ?c5 ?_)
 case c3=>rw [HUL.out];unfold maxLen;omega
 case c4=>rw [HUL.out];omega
 case c5=>have:=hb1.size;omega
 intro v' w2 hown' hgrow _
 have hlt:b < w1.heap.size:=heap_lt hbk
 have hb2:w2.heap[b]? = some (.cells #[.pointer (some ⟨b,0,none⟩),v] 138 (0,0)):=by
  rw [hgrow.block b hlt (fun e=>hne e.symm)]
  exact hbk
 have d0:w2.cell? ⟨b,0,none⟩ = some (.pointer (some ⟨b,0,none⟩)):=by rw [Lib.cell_of_heap hb2];rfl
 have d1:w2.cell? ⟨b,1,none⟩ = some v:=by rw [Lib.cell_of_heap hb2];rfl
 have f1:w2.frozen? ⟨b,1,none⟩ = false:=Lib.frozen_of_heap hb2 1
 obtain ⟨ao,n',cap,rfl⟩:∃ ao n' cap,v' = .slice ao n' cap:=by
  rcases hown'.2 with ⟨hv,_⟩ | ⟨g,cap,cur,fz,hv,_⟩
  ·exact ⟨_,_,_,hv⟩
  ·exact ⟨_,_,_,hv⟩
 go_wp2
 go_ret2
 have hcells:u8s l ++ Lib.strCells s = u8s (l ++ s.data.toList):=by simp [Lib.strCells,u8s]
 refine ⟨rfl,.inr ?_,?_⟩
 ·rw [← hcells]
  exact Lib.BuilderAtF.put (T:=138) (e:=5) hB hb2 (bs':=u8s l ++ Lib.strCells s) (by simpa [Lib.strCells_length] using hown') (by decide)
 ·exact (hb1.grown hgrow (by have:=hb1.size;omega) (fun k hk=>(hown.lt k hk).1)).setCell (p:=⟨b,1,none⟩) hB _
theorem bstring_any (B b:Nat) (l:List UInt8) (w:World) (h:IsB B b (u8s l) w) (hBw:B ≤ w.heap.size) :
  Calls Tryz.prog 72 #[.pointer (some ⟨b,0,none⟩)] w fun e w'=>e = .returned (.string ⟨l.toArray⟩) ∧ IsB B b (u8s l) w' ∧ Below B w w':=by
 have e:u8s l = Lib.byteCells l:=rfl
 rw [e] at h ⊢
 exact (Tryz.Builder_String_any_k B b l w h hBw).mono fun e w' ⟨h1,h2,h3,_⟩=>⟨h1,h2,h3⟩
theorem isB_new (w:World) (B:Nat) (hB:B ≤ w.heap.size):IsB B w.heap.size (u8s []) (w.alloc (.cells #[.pointer none,.slice none 0 0] 138)):=by
 refine .inl ⟨hB,.slice none 0 0,heap_alloc_new w _,⟨rfl,.inl ⟨rfl,rfl⟩⟩,?_⟩
 simp [Value.ownBlock]
end Go.Proofs.YtgjokdngbocehaaGreatDoor
namespace Go.Proofs.YtgjokdngbocehaaGreatDoor
open Go.RowKit
set_option maxHeartbeats 2000000 in
set_option maxRecDepth 100000 in
theorem bbyte_any (B b:Nat) (l:List UInt8) (c:UInt8) (w:World) (h:IsB B b (u8s l) w) (hlen:l.length + 1 ≤ 140737488355328) (hBw:B ≤ w.heap.size) :
  Calls Tryz.prog 102 #[.pointer (some ⟨b,0,none⟩),.int .u8 c.toNat] w fun e w'=>e = .returned .nilIface ∧ IsB B b (u8s (l ++ [c])) w' ∧ Below B w w':=by
 obtain ⟨i0,hi,h3⟩:=Option.map_eq_some_iff.1 infoU8b
 simp only [Prod.mk.injEq] at h3
 obtain ⟨hz0,hz1,hz2⟩:=h3
 obtain ⟨x,hx⟩:∃ x:Int,x = (c.toNat:Int):=⟨_,rfl⟩
 rw [← hx]
 have HX:=Lib.hid hx
 clear hx
 go_enter Tryz.func102,Tryz.ntmps102
 go_wp2_with fail
 refine (copy_any B b (u8s l) w h).mono ?_
 rintro e w1 ⟨rfl,h1,hb1⟩
 obtain ⟨hB,v,hbk,hown,hne⟩:=h1
 have c0:w1.cell? ⟨b,0,none⟩ = some (.pointer (some ⟨b,0,none⟩)):=by rw [Lib.cell_of_heap hbk];rfl
 have c1:w1.cell? ⟨b,1,none⟩ = some v:=by rw [Lib.cell_of_heap hbk];rfl
 have hul:(u8s l).length = l.length:=u8s_length l
 have HUL:=Lib.hid hul
 clear hul
 go_wp2_with (at_builtin;refine wpList_append_ownF _ rfl _ _ 136 rfl B 5 i0 (.int .u8 0) 1 1 Tryz.underlying136 hi hz0 hz1 hz2 rfl (by decide) _ _ _ rfl (hown.alloc _) ⟨w1.heap.size,0,none⟩ 1 1 [.int .u8 x] rfl rfl ?c1 ?c2 ?c3 ?c4 ?c5 ?_)
 case c1 =>
  intro j u hj
  match j,hj with
  | 0,hj=>simp at hj;subst hj;simp [Addr.add]
 case c2=>intro u hu;simp at hu;subst hu;rfl
 case c3=>rw [HUL.out];unfold maxLen;omega
 case c4=>rw [HUL.out];omega
 case c5=>have:=hb1.size;simp;omega
 intro v' w2 hown' hgrow _
 have hlt:b < w1.heap.size:=heap_lt hbk
 have hb2:w2.heap[b]? = some (.cells #[.pointer (some ⟨b,0,none⟩),v] 138 (0,0)):=by
  rw [hgrow.block b (by simp;omega) (fun e=>hne e.symm),Lib.alloc_old w1 _ b hlt]
  exact hbk
 have d0:w2.cell? ⟨b,0,none⟩ = some (.pointer (some ⟨b,0,none⟩)):=by rw [Lib.cell_of_heap hb2];rfl
 have d1:w2.cell? ⟨b,1,none⟩ = some v:=by rw [Lib.cell_of_heap hb2];rfl
 have f1:w2.frozen? ⟨b,1,none⟩ = false:=Lib.frozen_of_heap hb2 1
 obtain ⟨g,cap,rfl⟩:∃ g cap,v' = .slice (some ⟨g,0,none⟩) ((u8s l).length + 1) cap:=by
  rcases hown'.2 with ⟨_,h0⟩ | ⟨g,cap,cur,fz,hv,_⟩
  ·omega
  ·exact ⟨g,cap,hv⟩
 go_wp2
 go_ret
 have hcells:u8s l ++ [.int .u8 x] = u8s (l ++ [c]):=by rw [HX.out];simp [u8s]
 refine ⟨rfl,.inr ?_,?_⟩
 ·rw [← hcells]
  exact Lib.BuilderAtF.put (T:=138) (e:=5) hB hb2 (bs':=u8s l ++ [.int .u8 x]) (by simpa using hown') (by decide)
 ·exact ((hb1.alloc (by have:=hb1.size;omega) _).grown hgrow (by have:=hb1.size;simp;omega) (fun k hk=>(hown.lt k hk).1)).setCell (p:=⟨b,1,none⟩) hB _
end Go.Proofs.YtgjokdngbocehaaGreatDoor
namespace Go.Proofs.YtgjokdngbocehaaGreatDoor
open Go.RowKit
def strL (l:List UInt8):ByteArray:=⟨l.toArray⟩
theorem strL_size (l:List UInt8):(strL l).size = l.length:=by simp [strL,ByteArray.size]
theorem strL_data (l:List UInt8):(strL l).data.toList = l:=by simp [strL]
theorem strL_of (s:ByteArray):strL s.data.toList = s:=by
 apply ByteArray.ext
 simp [strL]
theorem strL_add (l m:List UInt8):strL l ++ strL m = strL (l ++ m):=by
 apply ByteArray.ext
 simp [strL]
theorem run_catL {P:Program} (a b:List UInt8) (h:a.length + b.length ≤ 9223372036854775807) (w:World):(Op.stringOp .add (strL a) (strL b)).run P w = .ok (.string (strL (a ++ b))) w:=by
 rw [run_string_add_sum (P:=P) w _ _ (by rw [strL_size,strL_size];omega),strL_add]
def AttrsAt (w:World) (a:Option Addr) (n:Nat) (ats:List (List UInt8 × List UInt8)):Prop :=
 n = ats.length ∧ ∀ i,(h:i < ats.length) → ∃ b o,a = some ⟨b,o,none⟩ ∧ b < w.heap.size ∧ w.cell? ⟨b,o + i * 2,none⟩ = some (.string (strL ats[i].1)) ∧ w.cell? ⟨b,o + i * 2 + 1,none⟩ = some (.string (strL ats[i].2))
theorem AttrsAt.below {w w':World} {a:Option Addr} {n:Nat} {ats:List (List UInt8 × List UInt8)} (h:AttrsAt w a n ats) (hb:Below w.heap.size w w'):AttrsAt w' a n ats :=
 ⟨h.1,fun i hi=>by
  obtain ⟨b,o,e,hlt,h1,h2⟩:=h.2 i hi
  exact ⟨b,o,e,Nat.lt_of_lt_of_le hlt hb.size,(hb.cell (p:=⟨b,o + i * 2,none⟩) hlt).trans h1,(hb.cell (p:=⟨b,o + i * 2 + 1,none⟩) hlt).trans h2⟩⟩
def attrW (a:List UInt8 × List UInt8):List UInt8:=[32] ++ a.1 ++ [61,34] ++ replL valuePs a.2 ++ [34]
def eventW (kind:Int) (name:List UInt8) (ats:List (List UInt8 × List UInt8)) (text:List UInt8):List UInt8 :=
 if kind = 0 then [60] ++ name ++ ats.flatMap attrW ++ [62]
 else if kind = 1 then replL textPs text
 else if kind = 2 then [60,47] ++ name ++ [62]
 else []
theorem flat_drop {α β:Type} (f:α → List β) (l:List α) (k:Nat) (h:k < l.length):(l.take (k + 1)).flatMap f = (l.take k).flatMap f ++ f l[k]:=by
 rw [List.take_succ_eq_append_getElem h,List.flatMap_append];simp
theorem ownsRowF_below {w w':World} {B:Nat} {e:TypeId} {v:Value} {n:Nat} {xs:List Value} (h:w.ownsRowF B e 1 v n xs) (hb:Below w.heap.size w w'):w'.ownsRowF B e 1 v n xs:=by
 obtain ⟨h1,h2⟩:=h
 refine ⟨h1,?_⟩
 rcases h2 with h2 | ⟨g,cap,cur,fz,hv,hg,hh,r⟩
 ·exact .inl h2
 ·exact .inr ⟨g,cap,cur,fz,hv,hg,(hb.block g (heap_lt hh)).trans hh,r⟩
theorem IsB_below {B b:Nat} {bs:List Value} {w w':World} (h:IsB B b bs w) (hb:Below w.heap.size w w'):IsB B b bs w':=by
 rcases h with ⟨hB,v,h1,h2,h3⟩ | ⟨hB,v,h1,h2,h3⟩
 ·exact .inl ⟨hB,v,(hb.block b (heap_lt h1)).trans h1,ownsRowF_below h2 hb,h3⟩
 ·exact .inr ⟨hB,v,(hb.block b (heap_lt h1)).trans h1,ownsRowF_below h2 hb,h3⟩
theorem ValueC_any (l:List UInt8) (w:World) (h:l.length ≤ 1048576) :
  Calls Tryz.prog 101 #[.string (strL l)] w fun e w'=>e = .returned (.string (strL (replL valuePs l))) ∧ Below w.heap.size w w' :=
 Value_any (strL l) w (by rw [strL_size];omega)
theorem TextC_any (l:List UInt8) (w:World) (h:l.length ≤ 1048576) :
  Calls Tryz.prog 103 #[.string (strL l)] w fun e w'=>e = .returned (.string (strL (replL textPs l))) ∧ Below w.heap.size w w' :=
 Text_any (strL l) w (by rw [strL_size];omega)
theorem bwriteL_any (B b:Nat) (l s:List UInt8) (w:World) (h:IsB B b (u8s l) w) (hlen:l.length + s.length ≤ 140737488355328) (hBw:B ≤ w.heap.size) :
  Calls Tryz.prog 70 #[.pointer (some ⟨b,0,none⟩),.string (strL s)] w fun e w'=>e = .returned (.tuple #[.int .i64 s.length,.nilIface]) ∧ IsB B b (u8s (l ++ s)) w' ∧ Below B w w':=by
 have:=bwrite_any B b l (strL s) w h (by rw [strL_size];exact hlen) hBw
 rw [strL_size,strL_data] at this
 exact this
theorem form_value_len (c:UInt8):(form valuePs c).length ≤ 6:=by
 have h:∀ n:Fin 256,(form valuePs (UInt8.ofNat n)).length ≤ 6:=by decide +kernel
 have:=h ⟨c.toNat,c.toNat_lt⟩
 simpa using this
theorem replL_vlen (l:List UInt8):(replL valuePs l).length ≤ 6 * l.length:=by
 induction l with
 | nil=>simp [replL]
 | cons b l ih =>
  have:=form_value_len b
  simp only [replL,List.flatMap_cons,List.length_append,List.length_cons] at *
  omega
theorem attrW_len (p:List UInt8 × List UInt8) (h1:p.1.length ≤ 1048576) (h2:p.2.length ≤ 1048576):(attrW p).length ≤ 8388608:=by
 have:=replL_vlen p.2
 simp only [attrW,List.length_append,List.length_cons,List.length_nil]
 omega
theorem attrs_len (l:List (List UInt8 × List UInt8)) (h:∀ p ∈ l,p.1.length ≤ 1048576 ∧ p.2.length ≤ 1048576):(l.flatMap attrW).length ≤ 8388608 * l.length:=by
 induction l with
 | nil=>simp
 | cons p l ih =>
  have h1:=h p (by simp)
  have:=attrW_len p h1.1 h1.2
  have:=ih (fun q hq=>h q (by simp [hq]))
  simp only [List.flatMap_cons,List.length_append,List.length_cons]
  omega
set_option maxRecDepth 100000 in
set_option maxHeartbeats 8000000 in
theorem event_open (num dep fr tt:Int) (name text:List UInt8) (a:Option Addr) (n c:Nat) (ats:List (List UInt8 × List UInt8)) (w:World) (hA:AttrsAt w a n ats) (hn:n ≤ 1048576)
  (hnm:name.length ≤ 1048576) (hlen:∀ p ∈ ats,p.1.length ≤ 1048576 ∧ p.2.length ≤ 1048576) :
  Calls Tryz.prog 71 #[.agg #[.int .i64 0,.int .i64 num,.int .i64 dep,.string (strL name),.slice a n c,.string (strL text),.int .i64 fr,.int .i64 tt]] w fun e w'=>e = .returned (.string (strL (eventW 0 name ats text))) ∧ Below w.heap.size w w':=by
 have hE:eventW 0 name ats text = 60 :: (name ++ (ats.flatMap attrW ++ [62])):=by unfold eventW;rw [if_pos rfl];simp
 rw [hE]
 clear hE
 have HA:=Lib.hid hA
 have HN:Hid (ats.length = n):=Lib.hid hA.1.symm
 have HL:=Lib.hid hlen
 have HAL:Hid (∀ k,((ats.take k).flatMap attrW).length ≤ 8388608 * n):=Lib.hid (fun k=>by
  have h1:=attrs_len (ats.take k) (fun p hp=>hlen p (List.mem_of_mem_take hp))
  have h2:(ats.take k).length ≤ n:=by rw [List.length_take,← hA.1];omega
  exact Nat.le_trans h1 (Nat.mul_le_mul_left _ h2))
 have c1:∀ W,(Op.stringOp .add ⟨#[60]⟩ (strL name)).run Tryz.prog W = .ok (.string (strL (60 :: name))) W:=run_catL [60] name (by simp;omega)
 clear hA hlen
 go_enter Tryz.func71,Tryz.ntmps71
 go_wp2_with fail
 clear c1
 refine (bwriteL_any (w.heap.size + 1) (w.heap.size + 1) [] (60 :: name) _ ?_ ?_ ?_).mono ?_
 ·have h:=isB_new (w.alloc (.cells #[.int .i64 0,.int .i64 num,.int .i64 dep,.string (strL name),.slice a n c,.string (strL text),.int .i64 fr,.int .i64 tt] 47)) (w.heap.size + 1) (by simp)
  simpa using h
 ·simp;omega
 ·simp
 rintro e w1 ⟨rfl,hB1,hb1⟩
 have e4:w1.cell? ⟨w.heap.size,4,none⟩ = some (.slice a n c):=by
  rw [hb1.cell (p:=⟨w.heap.size,4,none⟩) (by simp),cell_heap ((heap_alloc_old _ _ (by simp)).trans (heap_alloc_new w _))]
  rfl
 have HB1:=Lib.hid hB1
 have hb1':Below w.heap.size w w1:=(((Below.refl w.heap.size w).alloc (Nat.le_refl _) _).alloc (by simp) _).trans (hb1.mono (by omega))
 have hs1:w.heap.size + 1 ≤ w1.heap.size:=by have:=hb1.size;simp at this;omega
 clear hB1 hb1
 go_wp2_with fail
 go_loopw [17] (fun kx wr=>∃ k:Nat,kx = .int .i64 k ∧ k ≤ n ∧ Below (w.heap.size + 1) w1 wr ∧ Hid (IsB (w.heap.size + 1) (w.heap.size + 1) (u8s ((60 :: name) ++ (ats.take k).flatMap attrW)) wr)) (fun kx _=>n - (intOf kx).toNat)
 case atStart=>exact ⟨0,rfl,Nat.zero_le _,Below.refl _ _,by simpa using HB1⟩
 case round =>
  obtain ⟨k,rfl,hk,hbr,hB⟩:=hrel
  by_cases hkn:k < n
  ·have hkl:k < ats.length:=by rw [HN.out];exact hkn
   have hfl:=flat_drop attrW ats k hkl
   have hln:=HL.out ats[k] (List.getElem_mem hkl)
   have hwr:Below w.heap.size w wr:=hb1'.trans (hbr.mono (by omega))
   obtain ⟨ab,ao,rfl,hab,k0,k1⟩:=(HA.out.below hwr).2 k hkl
   generalize ats[k] = at1 at *
   obtain ⟨an,av⟩:=at1
   simp only at k0 k1 hln
   have HFL:=Lib.hid hfl
   have hcl:=HAL.out k
   obtain ⟨cur,hcur⟩:∃ cur,cur = (60 :: name) ++ (ats.take k).flatMap attrW:=⟨_,rfl⟩
   rw [← hcur] at hB
   have hcurl:cur.length ≤ 1 + 1048576 + 8388608 * n:=by rw [hcur,List.length_append,List.length_cons];omega
   have HCUR:=Lib.hid hcur
   clear hfl hcur hcl
   have hv6:=replL_vlen av
   obtain ⟨x1,hx1⟩:∃ x,x = 32 :: an:=⟨_,rfl⟩
   obtain ⟨x2,hx2⟩:∃ x,x = x1 ++ [61,34]:=⟨_,rfl⟩
   obtain ⟨x3,hx3⟩:∃ x,x = replL valuePs av:=⟨_,rfl⟩
   obtain ⟨x4,hx4⟩:∃ x,x = x2 ++ x3:=⟨_,rfl⟩
   obtain ⟨x5,hx5⟩:∃ x,x = x4 ++ [34]:=⟨_,rfl⟩
   have hx6:x5 = attrW (an,av):=by rw [hx5,hx4,hx3,hx2,hx1];rfl
   have s1:∀ W,(Op.stringOp .add ⟨#[32]⟩ (strL an)).run Tryz.prog W = .ok (.string (strL x1)) W:=by rw [hx1];exact run_catL [32] an (by simp;omega)
   have s2:∀ W,(Op.stringOp .add (strL x1) ⟨#[61,34]⟩).run Tryz.prog W = .ok (.string (strL x2)) W:=by rw [hx2,hx1];exact run_catL (32 :: an) [61,34] (by simp;omega)
   have s3:∀ W,(Op.stringOp .add (strL x2) (strL x3)).run Tryz.prog W = .ok (.string (strL x4)) W:=by rw [hx4,hx2,hx1,hx3];exact run_catL _ _ (by simp;omega)
   have s4:∀ W,(Op.stringOp .add (strL x4) ⟨#[34]⟩).run Tryz.prog W = .ok (.string (strL x5)) W:=by rw [hx5,hx4,hx2,hx1,hx3];exact run_catL _ [34] (by simp;omega)
   have HV:=Lib.hid (fun W=>ValueC_any av W hln.2)
   rw [← hx3] at HV
   have hal:=attrW_len (an,av) hln.1 hln.2
   rw [← hx6] at hal
   have HX6:=Lib.hid hx6
   clear hx1 hx2 hx3 hx4 hx5 hx6
   have hwz:w.heap.size + 1 ≤ wr.heap.size:=Nat.le_trans hs1 hbr.size
   have hbW:=hbr.alloc hwz (.cells #[.string (strL an),.string (strL av)] 158)
   have HB2:Hid (IsB (w.heap.size + 1) (w.heap.size + 1) (u8s cur) (wr.alloc (.cells #[.string (strL an),.string (strL av)] 158))):=Lib.hid (IsB_below hB.out ((Below.refl _ _).alloc (Nat.le_refl _) _))
   have HW2:=Lib.hid hbW
   have q0:(wr.alloc (.cells #[.string (strL an),.string (strL av)] 158)).cell? ⟨wr.heap.size,0,none⟩ = some (.string (strL an)):=by rw [cell_heap (heap_alloc_new wr _)];rfl
   have q1:(wr.alloc (.cells #[.string (strL an),.string (strL av)] 158)).cell? ⟨wr.heap.size,1,none⟩ = some (.string (strL av)):=by rw [cell_heap (heap_alloc_new wr _)];rfl
   have hlt2:wr.heap.size < (wr.alloc (.cells #[.string (strL an),.string (strL av)] 158)).heap.size:=by simp
   have HWS:Hid (w.heap.size + 1 ≤ (wr.alloc (.cells #[.string (strL an),.string (strL av)] 158)).heap.size):=Lib.hid (by simp;omega)
   clear hB hbr hln hbW
   generalize hp:wr.heap.size = p at *
   go_wp2_with fail
   generalize wr.alloc (.cells #[.string (strL an),.string (strL av)] 158) = W2 at *
   go_region_with (first | (go_at_call 101;refine (HV.out _).mono ?_;rintro e w5 ⟨rfl,hb5⟩;have z0:=(hb5.cell (p:=⟨p,0,none⟩) hlt2).trans q0) | (go_at_call 70;refine (bwriteL_any (w.heap.size + 1) (w.heap.size + 1) cur x5 _ (IsB_below (IsB_below HB2.out (Below.refl _ _).drew) hb5) (by omega) (Nat.le_trans HWS.out hb5.size)).mono ?_;rintro e w6 ⟨rfl,h6,hb6⟩))
   all_goals
    go_wp2_with fail
    go_roundw
    case rel=>exact ⟨k + 1,by go_num,by omega,HW2.out.trans (((Below.refl _ _).drew.trans (hb5.mono (Nat.le_trans HWS.out (Nat.le_refl _)))).trans hb6),Lib.hid (by rw [HFL.out,← HX6.out,← List.append_assoc,← HCUR.out];exact h6)⟩
    case measure=>simp [intOf];omega
  ·have hkn':k = n:=by omega
   have htk:ats.take k = ats:=List.take_of_length_le (by rw [HN.out];omega)
   rw [htk] at hB
   have hcl:=HAL.out k
   rw [htk] at hcl
   have hwr:w.heap.size + 1 ≤ wr.heap.size:=Nat.le_trans hs1 hbr.size
   have hfin:Below w.heap.size w wr:=hb1'.trans (hbr.mono (by omega))
   have HB9:Hid (∀ W,Below (w.heap.size + 1) wr W → Below w.heap.size w W):=Lib.hid (fun W h=>hfin.trans (h.mono (by omega)))
   have HCL:=Lib.hid hcl
   clear hkn' htk hcl hfin hbr
   go_wp2_with fail
   refine (bbyte_any (w.heap.size + 1) (w.heap.size + 1) _ 62 wr hB.out (by have:=HCL.out;rw [List.length_append,List.length_cons];omega) hwr).mono ?_
   rintro e w6 ⟨rfl,h6,hb6⟩
   have h6s:w.heap.size + 1 ≤ w6.heap.size:=Nat.le_trans hwr hb6.size
   go_wp2_with fail
   refine (bstring_any (w.heap.size + 1) (w.heap.size + 1) _ w6 h6 h6s).mono ?_
   rintro e w7 ⟨rfl,_,hb7⟩
   have hb8:=HB9.out _ (hb6.trans hb7)
   clear h6 hb6 hb7 hB
   go_wp2_with fail
   go_ret
   exact ⟨rfl,hb8⟩
set_option maxRecDepth 100000 in
set_option maxHeartbeats 4000000 in
theorem event_text (num dep fr tt:Int) (name text:List UInt8) (a:Option Addr) (n c:Nat) (ats:List (List UInt8 × List UInt8)) (w:World) (ht:text.length ≤ 1048576) :
  Calls Tryz.prog 71 #[.agg #[.int .i64 1,.int .i64 num,.int .i64 dep,.string (strL name),.slice a n c,.string (strL text),.int .i64 fr,.int .i64 tt]] w fun e w'=>e = .returned (.string (strL (eventW 1 name ats text))) ∧ Below w.heap.size w w':=by
 have HT:=Lib.hid (fun W=>TextC_any text W ht)
 clear ht
 go_enter Tryz.func71,Tryz.ntmps71
 go_wp2_with fail
 (with_reducible refine (HT.out _).mono ?_)
 rintro e w1 ⟨rfl,hb1⟩
 have hb2:=((Below.refl w.heap.size w).alloc (Nat.le_refl _) (.cells #[.int .i64 1,.int .i64 num,.int .i64 dep,.string (strL name),.slice a n c,.string (strL text),.int .i64 fr,.int .i64 tt] 47)).trans (hb1.mono (by simp))
 clear hb1
 go_wp2_with fail
 go_ret
 exact ⟨rfl,hb2⟩
set_option maxRecDepth 100000 in
set_option maxHeartbeats 4000000 in
theorem event_close (num dep fr tt:Int) (name text:List UInt8) (a:Option Addr) (n c:Nat) (ats:List (List UInt8 × List UInt8)) (w:World) (hnm:name.length ≤ 1048576) :
  Calls Tryz.prog 71 #[.agg #[.int .i64 2,.int .i64 num,.int .i64 dep,.string (strL name),.slice a n c,.string (strL text),.int .i64 fr,.int .i64 tt]] w fun e w'=>e = .returned (.string (strL (eventW 2 name ats text))) ∧ Below w.heap.size w w':=by
 obtain ⟨x1,hx1⟩:∃ x,x = [60,47] ++ name:=⟨_,rfl⟩
 obtain ⟨x2,hx2⟩:∃ x,x = x1 ++ [62]:=⟨_,rfl⟩
 have s1:∀ W,(Op.stringOp .add ⟨#[60,47]⟩ (strL name)).run Tryz.prog W = .ok (.string (strL x1)) W:=by rw [hx1];exact run_catL [60,47] name (by simp;omega)
 have s2:∀ W,(Op.stringOp .add (strL x1) ⟨#[62]⟩).run Tryz.prog W = .ok (.string (strL x2)) W:=by rw [hx2,hx1];exact run_catL _ [62] (by simp;omega)
 have he:eventW 2 name ats text = x2:=by rw [hx2,hx1];rfl
 rw [he]
 clear hx1 hx2 he hnm
 go_enter Tryz.func71,Tryz.ntmps71
 go_wp2_with fail
 go_ret
 exact ⟨rfl,(Below.refl _ _).alloc (Nat.le_refl _) _⟩
set_option maxRecDepth 100000 in
set_option maxHeartbeats 4000000 in
theorem event_none (kind num dep fr tt:Int) (name text:List UInt8) (a:Option Addr) (n c:Nat) (ats:List (List UInt8 × List UInt8)) (w:World) (h0:kind ≠ 0) (h1:kind ≠ 1) (h2:kind ≠ 2) :
  Calls Tryz.prog 71 #[.agg #[.int .i64 kind,.int .i64 num,.int .i64 dep,.string (strL name),.slice a n c,.string (strL text),.int .i64 fr,.int .i64 tt]] w fun e w'=>e = .returned (.string (strL (eventW kind name ats text))) ∧ Below w.heap.size w w':=by
 have he:eventW kind name ats text = []:=by unfold eventW;rw [if_neg h0,if_neg h1,if_neg h2]
 rw [he]
 have t0:(kind == 0) = false:=by simpa using h0
 have t1:(kind == 1) = false:=by simpa using h1
 have t2:(kind == 2) = false:=by simpa using h2
 clear h0 h1 h2 he
 go_enter Tryz.func71,Tryz.ntmps71
 go_wp2_with fail
 go_ret
 exact ⟨rfl,(Below.refl _ _).alloc (Nat.le_refl _) _⟩
def evC (kind num dep:Int) (name:List UInt8) (a:Option Addr) (n c:Nat) (text:List UInt8) (fr tt:Int):Array Value :=
 #[.int .i64 kind,.int .i64 num,.int .i64 dep,.string (strL name),.slice a n c,.string (strL text),.int .i64 fr,.int .i64 tt]
theorem Event_any (kind num dep fr tt:Int) (name text:List UInt8) (a:Option Addr) (n c:Nat) (ats:List (List UInt8 × List UInt8)) (w:World) (hA:AttrsAt w a n ats) (hn:n ≤ 1048576)
  (hnm:name.length ≤ 1048576) (ht:text.length ≤ 1048576) (hlen:∀ p ∈ ats,p.1.length ≤ 1048576 ∧ p.2.length ≤ 1048576) :
  Calls Tryz.prog 71 #[.agg (evC kind num dep name a n c text fr tt)] w fun e w'=>e = .returned (.string (strL (eventW kind name ats text))) ∧ Below w.heap.size w w':=by
 by_cases h0:kind = 0
 ·subst h0;exact event_open num dep fr tt name text a n c ats w hA hn hnm hlen
 by_cases h1:kind = 1
 ·subst h1;exact event_text num dep fr tt name text a n c ats w ht
 by_cases h2:kind = 2
 ·subst h2;exact event_close num dep fr tt name text a n c ats w hnm
 exact event_none kind num dep fr tt name text a n c ats w h0 h1 h2
end Go.Proofs.YtgjokdngbocehaaGreatDoor
namespace Go.Proofs.YtgjokdngbocehaaGreatDoor
open Go.RowKit
section
variable {H:Type} {enc:TypeId × Value → H} {w:World} {base:Nat} {sp:Nat → Bool} {held:Bool} {fuel:Nat}
theorem bulk_le {l:List (DataW H)} {i:Nat} {d:DataW H} (h:l[i]? = some d):Rows.uptoBulk d ≤ Rows.uptoBulkAll l:=by
 induction l generalizing i with
 | nil=>simp at h
 | cons x r ih =>
  simp only [Rows.uptoBulkAll]
  cases i with
  | zero=>simp only [List.getElem?_cons_zero,Option.some.injEq] at h;subst h;omega
  | succ i=>have:=ih (i:=i) (by simpa using h);omega
theorem slice_read {S E:TypeId} {k:Nat} (hS:Tryz.prog.underlying S = some (.slice E)) (hE:Tryz.prog.cellsOf E = k) (hk:0 < k) {cs:List Value} {x:DataW H × List MemPlace}
  (h:DataW.trod enc Tryz.prog w base sp held fuel S cs = some x) :
  ∃ a n c,∃ (elems:List (DataW H × List MemPlace)),cs = [.slice a n c] ∧ n ≤ c ∧ elems.length = n ∧ (elems = [] ∨ ∃ rest,x.1 = .slice (elems.map (·.1)) rest) ∧
   ∀ i,(hi:i < elems.length) → ∃ b o m ecs,a = some ⟨b,o,none⟩ ∧ b < w.heap.size ∧ ecs.length = k ∧ (∀ j,j < k → w.cell? ⟨b,o + i * k + j,none⟩ = ecs[j]?) ∧ DataW.trod enc Tryz.prog w base sp held m E ecs = some elems[i]:=by
 rcases DataW.trod_slice hS h with ⟨rfl,_⟩ | ⟨a,len,cap,elems,rest,m,_,rfl,hx,_,hlc,_,hel,hat,_,_⟩
 ·exact ⟨none,0,0,[],rfl,Nat.le_refl _,rfl,.inl rfl,fun i hi=>by simp at hi⟩
 ·refine ⟨some a,len,cap,elems,rfl,hlc,hel,.inr ⟨_,by rw [hx]⟩,fun i hi=>?_⟩
  have h1:=hat i (by omega)
  rw [hE,List.getElem?_eq_getElem hi,Option.bind_eq_some_iff] at h1
  obtain ⟨ecs,hcs,hr⟩:=h1
  obtain ⟨_,hl,hc⟩:=World.cells?_some hcs
  obtain ⟨b,o,spt⟩:=a
  have hspt:spt = none:=by
   have h0:=hat 0 (by omega)
   rw [hE,List.getElem?_eq_getElem (show 0 < elems.length by omega),Option.bind_eq_some_iff] at h0
   obtain ⟨ecs0,hcs0,_⟩:=h0
   obtain ⟨_,hl0,hc0⟩:=World.cells?_some hcs0
   have hc00:=hc0 0 hk
   rw [List.getElem?_eq_getElem (by omega)] at hc00
   have:=World.cell?_spot hc00
   simpa [Addr.add] using this
  subst hspt
  refine ⟨b,o,m,ecs,rfl,?_,hl,fun j hj=>?_,hr⟩
  ·have:=World.cells?_block hcs hk
   simp only [Addr.add] at this
   split at this <;> simpa using this
  ·have:=hc j hj
   rw [Addr.add_lit,Addr.add_lit] at this
   exact this
def attrOf:DataW H → List UInt8 × List UInt8
 | .agg [.lit (.string a),.lit (.string b)]=>(a,b)
 | _=>([],[])
def wtA (l:List (List UInt8 × List UInt8)):Nat:=(l.map fun p=>p.1.length + p.2.length + 1).sum
theorem attr_desc:∃ f0 f1,Tryz.prog.underlying 158 = some (.struct #[f0,f1]) ∧ f0.type = 9 ∧ f1.type = 9 ∧ f0.offset = 0 ∧ f1.offset = 1:=by
 refine ⟨_,_,Tryz.underlying158,rfl,rfl,rfl,rfl⟩
theorem cellsAttr:Tryz.prog.cellsOf 158 = 2:=by kernel_rfl
theorem cellsStr1:Tryz.prog.cellsOf 9 = 1:=by kernel_rfl
theorem cellsInt1:Tryz.prog.cellsOf 3 = 1:=by kernel_rfl
theorem cellsKind1:Tryz.prog.cellsOf 44 = 1:=by kernel_rfl
theorem cellsAttrs1:Tryz.prog.cellsOf 45 = 1:=by kernel_rfl
theorem cellsEv:Tryz.prog.cellsOf 47 = 8:=by kernel_rfl
theorem getL {α:Type} {l:List α} {i:Nat} (hl:i < l.length):l[i]? = some l[i]:=List.getElem?_eq_getElem hl
set_option maxRecDepth 100000 in
theorem attr_read {cs:List Value} {x:DataW H × List MemPlace} (h:DataW.trod enc Tryz.prog w base sp held fuel 158 cs = some x) :
  cs = [.string (strL (attrOf x.1).1),.string (strL (attrOf x.1).2)] ∧ (attrOf x.1).1.length + (attrOf x.1).2.length + 1 ≤ Rows.uptoBulk x.1:=by
 obtain ⟨f0,f1,hu,t0,t1,o0,o1⟩:=attr_desc
 obtain ⟨xs,m,_,hx,hl,hxl,hat⟩:=DataW.trod_struct hu h
 have h0:=hat 0 f0 rfl
 have h1:=hat 1 f1 rfl
 rw [t0,o0,cellsStr1] at h0
 rw [t1,o1,cellsStr1] at h1
 rw [cellsAttr] at hl
 have hxl2:xs.length = 2:=hxl
 rw [getL (show 0 < xs.length by omega)] at h0
 rw [getL (show 1 < xs.length by omega)] at h1
 obtain ⟨s0,e0,y0,_⟩:=DataW.trod_string Tryz.underlying9 h0
 obtain ⟨s1,e1,y1,_⟩:=DataW.trod_string Tryz.underlying9 h1
 match xs,hxl2 with
 | [p0,p1],_ =>
  match cs,hl with
  | [c0,c1],_ =>
   simp at e0 e1 y0 y1
   subst e0 e1 y0 y1
   rw [hx]
   simp only [List.map_cons,List.map_nil,attrOf,strL_of,Rows.uptoBulk,Rows.uptoBulkAll]
   exact ⟨trivial,by omega⟩
theorem wtA_le (l:List (DataW H)) (h:∀ i,(hi:i < l.length) → (attrOf l[i]).1.length + (attrOf l[i]).2.length + 1 ≤ Rows.uptoBulk l[i]):wtA (l.map attrOf) ≤ Rows.uptoBulkAll l:=by
 induction l with
 | nil=>simp [wtA,Rows.uptoBulkAll]
 | cons x r ih =>
  have h0:=h 0 (by simp)
  have:=ih (fun i hi=>by have:=h (i + 1) (by simpa using hi);simpa using this)
  simp only [wtA,List.map_cons,List.sum_cons,Rows.uptoBulkAll,List.getElem_cons_zero] at *
  omega
def attrsOf:DataW H → List (List UInt8 × List UInt8)
 | .slice l _=>l.map attrOf
 | _=>[]
theorem attrs_read {cs:List Value} {x:DataW H × List MemPlace} (h:DataW.trod enc Tryz.prog w base sp held fuel 45 cs = some x) :
  ∃ a n c,cs = [.slice a n c] ∧ n ≤ c ∧ AttrsAt w a n (attrsOf x.1) ∧ wtA (attrsOf x.1) ≤ Rows.uptoBulk x.1:=by
 obtain ⟨a,n,c,elems,rfl,hnc,hel,hx,hat⟩:=slice_read Tryz.underlying45 cellsAttr (by decide) h
 have hw:=wtA_le (elems.map (·.1)) (fun i hi=>by
  rw [List.length_map] at hi
  obtain ⟨_,_,m,ecs,_,_,_,_,hr⟩:=hat i hi
  rw [List.getElem_map]
  exact (attr_read hr).2)
 have key:AttrsAt w a n (elems.map fun e=>attrOf e.1):=by
  refine ⟨by rw [List.length_map,hel],fun i hi=>?_⟩
  rw [List.length_map] at hi
  obtain ⟨b,o,m,ecs,e,hb,_,hc,hr⟩:=hat i hi
  obtain ⟨hcs,_⟩:=attr_read hr
  have c0:=hc 0 (by decide)
  have c1:=hc 1 (by decide)
  rw [hcs] at c0 c1
  rw [List.getElem_map]
  exact ⟨b,o,e,hb,c0,c1⟩
 refine ⟨a,n,c,rfl,hnc,?_⟩
 rcases hx with rfl | ⟨rest,hx⟩
 ·have:attrsOf x.1 = [] ∨ True:=.inr trivial
  obtain rfl:n = 0:=by simpa using hel.symm
  rcases DataW.trod_slice Tryz.underlying45 h with ⟨_,hx⟩ | ⟨a2,len,cap,elems,rest,m,_,e,hx,_,_,_,hel2,_,_,_⟩
  ·rw [hx];exact ⟨⟨rfl,fun i hi=>by simp [attrsOf] at hi⟩,by simp [attrsOf,wtA]⟩
  ·simp at e
   have:elems = []:=List.eq_nil_of_length_eq_zero (by omega)
   subst this
   rw [hx];exact ⟨⟨rfl,fun i hi=>by simp [attrsOf] at hi⟩,by simp [attrsOf,wtA]⟩
 ·rw [hx]
  simp only [attrsOf,List.map_map] at hw ⊢
  refine ⟨key,?_⟩
  simp only [Rows.uptoBulk]
  have e:(List.map (attrOf ∘ fun x=>x.1) elems) = elems.map fun e=>attrOf e.1:=rfl
  omega
structure Ev where
 kind:Int
 num:Int
 dep:Int
 name:List UInt8
 ats:List (List UInt8 × List UInt8)
 text:List UInt8
 fr:Int
 tt:Int
def evOf:DataW H → Ev
 | .agg [.lit (.int _ kind),.lit (.int _ num),.lit (.int _ dep),.lit (.string name),d,.lit (.string text),.lit (.int _ fr),.lit (.int _ tt)]=>⟨kind,num,dep,name,attrsOf d,text,fr,tt⟩
 | _=>⟨0,0,0,[],[],[],0,0⟩
def wtE (e:Ev):Nat:=e.name.length + e.text.length + wtA e.ats + 1
def EvCells (w:World) (cs:List Value) (e:Ev):Prop:=∃ a n c,cs = (evC e.kind e.num e.dep e.name a n c e.text e.fr e.tt).toList ∧ n ≤ c ∧ AttrsAt w a n e.ats
theorem ev_desc:∃ f0 f1 f2 f3 f4 f5 f6 f7,Tryz.prog.underlying 47 = some (.struct #[f0,f1,f2,f3,f4,f5,f6,f7]) ∧
  (f0.type = 44 ∧ f1.type = 3 ∧ f2.type = 3 ∧ f3.type = 9 ∧ f4.type = 45 ∧ f5.type = 9 ∧ f6.type = 3 ∧ f7.type = 3) ∧
  (f0.offset = 0 ∧ f1.offset = 1 ∧ f2.offset = 2 ∧ f3.offset = 3 ∧ f4.offset = 4 ∧ f5.offset = 5 ∧ f6.offset = 6 ∧ f7.offset = 7):=by
 refine ⟨_,_,_,_,_,_,_,_,Tryz.underlying47,⟨rfl,rfl,rfl,rfl,rfl,rfl,rfl,rfl⟩,⟨rfl,rfl,rfl,rfl,rfl,rfl,rfl,rfl⟩⟩
set_option maxRecDepth 100000 in
set_option maxHeartbeats 1000000 in
theorem event_read {cs:List Value} {x:DataW H × List MemPlace} (h:DataW.trod enc Tryz.prog w base sp held fuel 47 cs = some x) :
  EvCells w cs (evOf x.1) ∧ wtE (evOf x.1) ≤ Rows.uptoBulk x.1 ∧ (Lit.int .i64 (evOf x.1).kind).wf = true:=by
 obtain ⟨f0,f1,f2,f3,f4,f5,f6,f7,hu,⟨t0,t1,t2,t3,t4,t5,t6,t7⟩,⟨o0,o1,o2,o3,o4,o5,o6,o7⟩⟩:=ev_desc
 obtain ⟨xs,m,_,hx,hl,hxl,hat⟩:=DataW.trod_struct hu h
 have h0:=hat 0 f0 rfl
 have h1:=hat 1 f1 rfl
 have h2:=hat 2 f2 rfl
 have h3:=hat 3 f3 rfl
 have h4:=hat 4 f4 rfl
 have h5:=hat 5 f5 rfl
 have h6:=hat 6 f6 rfl
 have h7:=hat 7 f7 rfl
 clear hat
 rw [t0,o0,cellsKind1] at h0
 rw [t1,o1,cellsInt1] at h1
 rw [t2,o2,cellsInt1] at h2
 rw [t3,o3,cellsStr1] at h3
 rw [t4,o4,cellsAttrs1] at h4
 rw [t5,o5,cellsStr1] at h5
 rw [t6,o6,cellsInt1] at h6
 rw [t7,o7,cellsInt1] at h7
 rw [cellsEv] at hl
 have hxl8:xs.length = 8:=hxl
 match xs,hxl8 with
 | [p0,p1,p2,p3,p4,p5,p6,p7],_ =>
  match cs,hl with
  | [c0,c1,c2,c3,c4,c5,c6,c7],_ =>
   obtain ⟨n0,e0,y0,w0⟩:=DataW.trod_int Tryz.underlying44 h0
   obtain ⟨n1,e1,y1,_⟩:=DataW.trod_int Tryz.underlying3 h1
   obtain ⟨n2,e2,y2,_⟩:=DataW.trod_int Tryz.underlying3 h2
   obtain ⟨s3,e3,y3,_⟩:=DataW.trod_string Tryz.underlying9 h3
   obtain ⟨a,n,c,e4,hnc,hA,hw⟩:=attrs_read h4
   obtain ⟨s5,e5,y5,_⟩:=DataW.trod_string Tryz.underlying9 h5
   obtain ⟨n6,e6,y6,_⟩:=DataW.trod_int Tryz.underlying3 h6
   obtain ⟨n7,e7,y7,_⟩:=DataW.trod_int Tryz.underlying3 h7
   simp at e0 e1 e2 e3 e4 e5 e6 e7
   subst e0 e1 e2 e3 e4 e5 e6 e7
   subst y0 y1 y2 y3 y5 y6 y7
   rw [hx]
   simp only [List.map_cons,List.map_nil,evOf,wtE,Rows.uptoBulk,Rows.uptoBulkAll]
   refine ⟨⟨a,n,c,by simp [evC,strL_of],hnc,hA⟩,by omega,w0⟩
end
theorem wtA_mem (l:List (List UInt8 × List UInt8)):∀ p ∈ l,p.1.length + p.2.length + 1 ≤ wtA l:=by
 induction l with
 | nil=>intro p hp;cases hp
 | cons q l ih =>
  intro p hp
  simp only [wtA,List.map_cons,List.sum_cons]
  rcases List.mem_cons.1 hp with rfl | hp
  ·omega
  ·have:=ih p hp;simp only [wtA] at this;omega
theorem wtA_length (l:List (List UInt8 × List UInt8)):l.length ≤ wtA l:=by
 induction l with
 | nil=>simp [wtA]
 | cons q l ih=>simp only [wtA,List.map_cons,List.sum_cons,List.length_cons] at *;omega
def evOut (e:Ev):List UInt8:=eventW e.kind e.name e.ats e.text
theorem textL_len (l:List UInt8):(replL textPs l).length ≤ 6 * l.length:=by
 induction l with
 | nil=>simp [replL]
 | cons b l ih =>
  have h:∀ n:Fin 256,(form textPs (UInt8.ofNat n)).length ≤ 6:=by decide +kernel
  have hb:=h ⟨b.toNat,b.toNat_lt⟩
  simp only [UInt8.ofNat_toNat] at hb
  simp only [replL,List.flatMap_cons,List.length_append,List.length_cons] at *
  omega
theorem evOut_len (e:Ev):(evOut e).length ≤ 8 * wtE e:=by
 have ha:∀ l:List (List UInt8 × List UInt8),(l.flatMap attrW).length ≤ 8 * wtA l:=by
  intro l
  induction l with
  | nil=>simp [wtA]
  | cons p l ih =>
   have:=replL_vlen p.2
   simp only [wtA,List.flatMap_cons,List.length_append,List.map_cons,List.sum_cons,attrW,List.length_cons,List.length_nil] at *
   omega
 have h1:=ha e.ats
 have h2:=textL_len e.text
 unfold evOut eventW wtE
 split
 ·simp only [List.length_append,List.length_cons,List.length_nil];omega
 ·split
  ·omega
  ·split
   ·simp only [List.length_append,List.length_cons,List.length_nil];omega
   ·simp
theorem Event_cells {w:World} {cs:List Value} {e:Ev} (h:EvCells w cs e) (hw:wtE e ≤ 1048576) :
  Calls Tryz.prog 71 #[.agg cs.toArray] w fun r w'=>r = .returned (.string (strL (evOut e))) ∧ Below w.heap.size w w':=by
 obtain ⟨a,n,c,rfl,_,h3⟩:=h
 unfold wtE at hw
 have hn:n ≤ 1048576:=by have:=wtA_length e.ats;have:=h3.1;omega
 exact Event_any e.kind e.num e.dep e.fr e.tt e.name e.text a n c e.ats w h3 hn (by omega) (by omega) (fun p hp=>by have:=wtA_mem e.ats p hp;omega)
end Go.Proofs.YtgjokdngbocehaaGreatDoor
namespace Go.Proofs.YtgjokdngbocehaaGreatDoor
open Go.RowKit
def attrsB:Option (List UInt8) → List (List UInt8 × List UInt8) → Bool
 | _,[]=>true
 | q,p :: r=>nameB p.1 && textsB p.2 && (match q with | none=>true | some q=>Op.bytesLess q p.1) && attrsB (some p.1) r
structure BegS where
 opn:List (Int × Int × List UInt8)
 next:Int
 text:Bool
 cnt:Nat
def beg0:BegS:=⟨[],0,false,0⟩
def begOk (s:BegS) (e:Ev):Bool :=
 if e.kind = 0 then decide ((s.cnt = 0 ∨ s.opn ≠ []) ∧ e.num = s.next ∧ e.dep = (s.opn.length:Int) + 1 ∧ e.text = []) && nameB e.name && attrsB none e.ats
 else if e.kind = 1 then decide (s.opn ≠ [] ∧ e.num = s.next ∧ e.dep = (s.opn.length:Int) + 1 ∧ e.name = [] ∧ e.ats = [] ∧ e.text ≠ []) && textsB e.text && !s.text
 else if e.kind = 2 then decide (e.text = [] ∧ e.ats = [] ∧ s.opn.head? = some (e.num,e.dep,e.name))
 else false
def begNext (s:BegS) (e:Ev):BegS :=
 ⟨if e.kind = 0 then (e.num,e.dep,e.name) :: s.opn else if e.kind = 2 then s.opn.tail else s.opn,if e.kind = 2 then s.next else s.next + 1,e.kind == 1,s.cnt + 1⟩
def begAll:BegS → List Ev → Option BegS
 | s,[]=>some s
 | s,e :: l=>if begOk s e = true then begAll (begNext s e) l else none
def wholeB (l:List Ev):Bool:=match begAll beg0 l with
 | some s=>decide (l ≠ [] ∧ s.opn = [])
 | none=>false
theorem begAll_snoc (s:BegS) (l:List Ev) (e:Ev):begAll s (l ++ [e]) = (begAll s l).bind fun t=>if begOk t e = true then some (begNext t e) else none:=by
 induction l generalizing s with
 | nil=>simp only [List.nil_append,begAll,Option.bind_some]
 | cons x l ih =>
  simp only [List.cons_append,begAll]
  split
  ·exact ih _
  ·rfl
theorem begAll_app (s:BegS) (l m:List Ev):begAll s (l ++ m) = (begAll s l).bind fun t=>begAll t m:=by
 induction l generalizing s with
 | nil=>rfl
 | cons x l ih =>
  simp only [List.cons_append,begAll]
  split
  ·exact ih _
  ·rfl
end Go.Proofs.YtgjokdngbocehaaGreatDoor
