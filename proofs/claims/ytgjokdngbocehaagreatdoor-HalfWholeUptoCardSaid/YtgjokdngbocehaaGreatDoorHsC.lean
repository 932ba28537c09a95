/-
  strings.NewReplacer and (*strings.Replacer).Replace, called once, over pairs of one byte and a text.
-/
import Derived.Laws.Cover4
import Derived.Lib.LaidTab
import Derived.ProofKit
import Derived.OpenShut
import Derived.Lib.ValidLaws
import Derived.Test.YtgjokdngbocehaaGreatDoorHsA
import Derived.Test.YtgjokdngbocehaaGreatDoorHsB
namespace Go.Proofs.YtgjokdngbocehaaGreatDoor
open Go.RowKit
def OnceQ (b:Nat) (W:World) (ps:List (UInt8 × ByteArray)) (w2:World):Prop :=
 ∃ G,w2.heap[b]? = some (.cells #[.int .u32 0,.int .i32 1,.int .u32 0,.iface 256 (.pointer (some ⟨G,0,none⟩)),.slice none 0 0] 236 (0,0)) ∧ (∀ w',(∀ k,k ≠ b → w'.heap[k]? = w2.heap[k]?) → TabOK w' G ps) ∧ Below b W w2
set_option maxRecDepth 100000 in
set_option maxHeartbeats 1600000 in
theorem buildOnce_any (ps:List (UInt8 × ByteArray)) (b:Nat) (a:Option Addr) (n c:Nat) (x3:Value) (w:World)
  (hw:w.heap[b]? = some (.cells #[.int .u32 0,.int .i32 1,.int .u32 0,x3,.slice a n c] 236 (0,0))) (hs:Sl w a n (strsOf ps))
  (hlen:2 ≤ ps.length) (hsm:ps.length ≤ 256) (hnd:(ps.map (·.1)).Nodup) (hbig:∀ p ∈ ps,p.2.size ≤ 1048576) (hwide:ps.all (fun p=>p.2.size == 1) = false) :
  Calls Tryz.prog 149 #[.pointer (some ⟨b,0,none⟩)] w fun e w'=>e = .returned (.tuple #[]) ∧ OnceQ b w ps w':=by
 have HB:=Lib.hid (build_any ps b a n c _ _ _ _ w hw hs hlen hsm hnd hbig hwide)
 have HW:=Lib.hid hw
 have hbl:=heap_lt hw
 clear hw hs
 go_enter Tryz.func149,Tryz.ntmps149
 go_wp2_with fail
 refine HB.out.mono ?_
 rintro e w1 ⟨G,rfl,hI⟩
 have h1:=(hI.below.block b hbl).trans HW.out
 have c3:w1.cell? ⟨b,3,none⟩ = some x3:=by rw [cell_heap h1];rfl
 have f3:w1.frozen? ⟨b,3,none⟩ = false:=frozen_heap h1
 have h2:=setCell_heap (i:=3) h1 (.iface 256 (.pointer (some ⟨G,0,none⟩)))
 have c4:(w1.setCell ⟨b,3,none⟩ (.iface 256 (.pointer (some ⟨G,0,none⟩)))).cell? ⟨b,4,none⟩ = some (.slice a n c):=by rw [cell_heap h2];rfl
 have f4:(w1.setCell ⟨b,3,none⟩ (.iface 256 (.pointer (some ⟨G,0,none⟩)))).frozen? ⟨b,4,none⟩ = false:=frozen_heap h2
 have h3:=setCell_heap (i:=4) h2 (.slice none 0 0)
 have H3:=Lib.hid h3
 have HI:=Lib.hid hI
 clear h1 h2 h3 hI
 go_wp2_with fail
 go_end0
 have hb:=HI.out.below
 refine ⟨rfl,G,H3.out,fun w' hw'=>HI.out.okAt fun k hk _=>?_,?_⟩
 ·rw [hw' k (by omega),Below.heap_setCell _ _ _ _ (show k ≠ b by omega),Below.heap_setCell _ _ _ _ (show k ≠ b by omega)]
 ·exact ((hb.mono (Nat.le_of_lt hbl)).setCell (p:=⟨b,3,none⟩) (Nat.le_refl b) _).setCell (p:=⟨b,4,none⟩) (Nat.le_refl _) _
set_option maxRecDepth 100000 in
set_option maxHeartbeats 1600000 in
theorem Replace_any (ps:List (UInt8 × ByteArray)) (b:Nat) (a:Option Addr) (n c:Nat) (s:ByteArray) (w:World)
  (hw:w.heap[b]? = some (.cells #[.int .u32 0,.int .i32 0,.int .u32 0,.nilIface,.slice a n c] 236 (0,0))) (hs:Sl w a n (strsOf ps)) (hsb:∀ g o,a = some ⟨g,o,none⟩ → g ≠ b)
  (hlen:2 ≤ ps.length) (hsm:ps.length ≤ 256) (hnd:(ps.map (·.1)).Nodup) (hwide:ps.all (fun p=>p.2.size == 1) = false) (hsz:∀ p ∈ ps,1 ≤ p.2.size ∧ p.2.size ≤ 8) (hss:s.size ≤ 1099511627776) :
  Calls Tryz.prog 130 #[.pointer (some ⟨b,0,none⟩),.string s] w fun e w'=>e = .returned (.string (replS ps s)) ∧ Below b w w':=by
 have h1:=setCell_heap (i:=1) hw (.int .i32 1)
 have hs1:Sl (w.setCell ⟨b,1,none⟩ (.int .i32 1)) a n (strsOf ps):=hs.keep fun g o e=>Below.heap_setCell _ _ _ _ (hsb g o e)
 have HD:=Lib.hid (Do_any b #[.pointer (some ⟨b,0,none⟩)] _ _ _ (OnceQ b (w.setCell ⟨b,1,none⟩ (.int .i32 1)) ps) w hw
  (buildOnce_any ps b a n c _ _ h1 hs1 hlen hsm hnd (fun p hp=>by have:=hsz p hp;omega) hwide) (fun w2 ⟨G,hG,_⟩=>⟨_,_,hG⟩))
 have hmk:∀ (fn:Fn) (first cap:Array Value) (w:World),(Instr.makeFunc fn first cap).run Tryz.prog w = .ok (.func fn first cap) w:=fun _ _ _ _=>rfl
 clear h1 hs1 hw hs
 go_enter Tryz.func130,Tryz.ntmps130
 go_wp2_with fail
 refine HD.out.mono ?_
 rintro e w1 ⟨rfl,w2,⟨G,hb2,hT,hbel⟩,rfl⟩
 have h2:=setCell_heap (w:=w2.drew) (i:=0) hb2 (.int .u32 1)
 have h3:=setCell_heap (i:=1) h2 (.int .i32 0)
 have c3:((w2.drew.setCell ⟨b,0,none⟩ (.int .u32 1)).setCell ⟨b,1,none⟩ (.int .i32 0)).cell? ⟨b,3,none⟩ = some (.iface 256 (.pointer (some ⟨G,0,none⟩))):=by rw [cell_heap h3];rfl
 have hT2:=hT ((w2.drew.setCell ⟨b,0,none⟩ (.int .u32 1)).setCell ⟨b,1,none⟩ (.int .i32 0)) (fun k hk=>(Below.heap_setCell _ _ _ _ hk).trans (Below.heap_setCell _ _ _ _ hk))
 have HB:Hid (Below b w ((w2.drew.setCell ⟨b,0,none⟩ (.int .u32 1)).setCell ⟨b,1,none⟩ (.int .i32 0))):=by
  have b0:Below b w (w.setCell ⟨b,1,none⟩ (.int .i32 1)):=(Below.refl _ _).setCell (p:=⟨b,1,none⟩) (Nat.le_refl b) _
  exact (((b0.trans hbel).drew).setCell (p:=⟨b,0,none⟩) (Nat.le_refl b) _).setCell (p:=⟨b,1,none⟩) (Nat.le_refl b) _
 have hbl:b < ((w2.drew.setCell ⟨b,0,none⟩ (.int .u32 1)).setCell ⟨b,1,none⟩ (.int .i32 0)).heap.size:=heap_lt h3
 have HR:=Lib.hid (replace_any ps G s _ hT2 hsm hnd hsz hss)
 clear hT hT2 hb2 h2 h3 hbel HD
 generalize (w2.drew.setCell ⟨b,0,none⟩ (.int .u32 1)).setCell ⟨b,1,none⟩ (.int .i32 0) = w3 at *
 have hm:∀ (W:World),(method 413 256 (.pointer (some ⟨G,0,none⟩)) "Replace").run Tryz.prog W = .ok (223,.pointer (some ⟨G,0,none⟩)) W:=fun W=>by kernel_rfl
 go_wp2_with (go_at_call 223;refine HR.out.mono ?_;rintro e w4 ⟨rfl,hb4⟩)
 go_ret
 exact ⟨rfl,HB.out.trans (hb4.mono (Nat.le_of_lt hbl))⟩
theorem info_str':(Tryz.prog.info? 9).map (fun i=>(i.zero,i.size,i.bytes)) = some (some (.string ByteArray.empty),1,16):=by kernel_rfl
def RetNew (w:World) (e:Ending) (w':World) (ps:List (UInt8 × ByteArray)):Prop :=
 ∃ b a n c,e = .returned (.pointer (some ⟨b,0,none⟩)) ∧ w'.heap[b]? = some (.cells #[.int .u32 0,.int .i32 0,.int .u32 0,.nilIface,.slice a n c] 236 (0,0)) ∧ Sl w' a n (strsOf ps) ∧
  (∀ g o,a = some ⟨g,o,none⟩ → g ≠ b) ∧ Below w.heap.size w w' ∧ w.heap.size ≤ b
set_option maxRecDepth 100000 in
set_option maxHeartbeats 1600000 in
theorem New_any (ps:List (UInt8 × ByteArray)) (a:Option Addr) (n c:Nat) (w:World) (hs:Sl w a n (strsOf ps)) (hlen:2 ≤ ps.length) (hsm:ps.length ≤ 256) :
  Calls Tryz.prog 129 #[.slice a n c] w fun e w'=>RetNew w e w' ps:=by
 have hn:n = 2 * ps.length:=by have:=hs.len;rw [strsOf_length] at this;exact this
 obtain ⟨ba,oa,rfl,hba,hcs⟩:=strs_cells hs (by omega)
 have hmod:((n:Int) % 2 == 1) = false:=by simp;omega
 have hmod2:((n:Int).tmod 2 == 1) = false:=by rw [Int.tmod_eq_emod_of_nonneg (by omega)];exact hmod
 obtain ⟨is,his,hisz,his1,his2⟩:=info_parts info_str'
 have HN:=Lib.hid hn
 have HS:=Lib.hid hs
 have hnb:n ≤ 512:=by omega
 have hlen2:(strsOf ps).length = n * 1:=by rw [strsOf_length];omega
 have HL2:=Lib.hid hlen2
 have hcell:∀ (j:Nat) (u:Value),(strsOf ps)[j]? = some u → w.cell? ((⟨ba,oa,none⟩:Addr).add j) = some u:=by
  intro j u hu
  obtain ⟨hj,hv⟩:=List.getElem?_eq_some_iff.1 hu
  obtain ⟨b',o',e',_,hc'⟩:=hs.cell j hj
  injection e' with e'
  injection e' with e1 e2
  subst e1
  subst e2
  rw [Addr.add_mid,hc',hv]
 have HC:=Lib.hid hcell
 have h1c:∀ v ∈ strsOf ps,v.oneCell' = true:=by
  intro v hv
  simp only [strsOf,List.mem_flatMap] at hv
  obtain ⟨p,_,hv⟩:=hv
  simp only [List.mem_cons,List.not_mem_nil,or_false] at hv
  rcases hv with rfl | rfl <;> rfl
 have H1:=Lib.hid h1c
 clear hn hs hcs hlen2 hcell h1c
 go_enter Tryz.func129,Tryz.ntmps129
 go_wp2_with (at_builtin;go_loud (refine wpList_append_own _ rfl _ _ 220 (by rfl) w.heap.size 9 is (.string ByteArray.empty) 1 16 Tryz.underlying220 his hisz his1 his2 rfl (by decide) _ 0 [] (by rfl) (World.ownsRow_nil _ _ _ _) ⟨ba,oa,none⟩ n c (strsOf ps) (by rfl) HL2.out HC.out H1.out (by unfold maxLen;omega) (by omega) (Nat.le_refl _) (fun v1 w1 hown1 hgrow1 _=>?_));simp only [Nat.zero_add,List.nil_append] at hown1;obtain ⟨av,cv,rfl,hsl1⟩:=own_sl hown1)
 have hb1:Below w.heap.size w w1:=(Below.refl _ _).grown hgrow1 (Nat.le_refl _) (by intro k hk;cases hk)
 have hol:=hown1.lt
 go_ret
 refine ⟨w1.heap.size,av,n,cv,rfl,heap_alloc_new _ _,hsl1.keep fun g o e=>?_,fun g o e=>?_,hb1.alloc hb1.size _,hb1.size⟩
 ·have:=hol g (by rw [e];rfl)
  exact Below.heap_alloc _ _ _ this.2
 ·have:=hol g (by rw [e];rfl)
  omega
end Go.Proofs.YtgjokdngbocehaaGreatDoor
namespace Go.Proofs.YtgjokdngbocehaaGreatDoor
open Go.RowKit
def textPs:List (UInt8 × ByteArray) :=
 [(38,⟨#[38,97,109,112,59]⟩),(60,⟨#[38,108,116,59]⟩),(62,⟨#[38,103,116,59]⟩),(13,⟨#[38,35,120,68,59]⟩)]
def valuePs:List (UInt8 × ByteArray) :=
 [(38,⟨#[38,97,109,112,59]⟩),(60,⟨#[38,108,116,59]⟩),(34,⟨#[38,113,117,111,116,59]⟩),(9,⟨#[38,35,120,57,59]⟩),(10,⟨#[38,35,120,65,59]⟩),(13,⟨#[38,35,120,68,59]⟩)]
theorem sl_of_block {w:World} {g:Nat} {ps:List (UInt8 × ByteArray)} {e:TypeId} (h:w.heap[g]? = some (.cells (strsOf ps).toArray e (0,0))):Sl w (some ⟨g,0,none⟩) (strsOf ps).length (strsOf ps) :=
 ⟨rfl,fun i hi=>⟨g,0,rfl,heap_lt h,by rw [cell_heap h,Nat.zero_add];simp [hi]⟩⟩
set_option maxRecDepth 100000 in
set_option maxHeartbeats 1600000 in
theorem Text_any (s:ByteArray) (w:World) (hs:s.size ≤ 1099511627776) :
  Calls Tryz.prog 103 #[.string s] w fun e w'=>e = .returned (.string (replS textPs s)) ∧ Below w.heap.size w w':=by
 go_enter Tryz.func103,Tryz.ntmps103
 go_wp2_with fail
 have hsl:=sl_of_block (ps:=textPs) (heap_alloc_new w (.cells (strsOf textPs).toArray 9))
 refine (New_any textPs _ _ _ _ hsl (by decide) (by decide)).mono ?_
 rintro e w1 ⟨b,a,n,c,rfl,hb,hs1,hsb,hb1,hble⟩
 have hb1':Below w.heap.size w w1:=((Below.refl _ w).alloc (Nat.le_refl _) (.cells (strsOf textPs).toArray 9)).trans (hb1.mono (by simp))
 have hble':w.heap.size ≤ b:=by simp at hble;omega
 have HR:=Lib.hid (Replace_any textPs b a n c s w1 hb hs1 hsb (by decide) (by decide) (by decide) (by decide) (by decide) hs)
 clear hb hs1 hsb hb1 hble hsl
 go_wp2_with fail
 refine HR.out.mono ?_
 rintro e w2 ⟨rfl,hb2⟩
 go_wp2_with fail
 go_ret
 exact ⟨rfl,hb1'.trans (hb2.mono hble')⟩
end Go.Proofs.YtgjokdngbocehaaGreatDoor
namespace Go.Proofs.YtgjokdngbocehaaGreatDoor
open Go.RowKit
def decL (l:List UInt8):Nat × Nat:=Lib.decodeN l.length (l.getD 0 0).toNat (l.getD 1 0).toNat (l.getD 2 0).toNat (l.getD 3 0).toNat
theorem get_drop (s:ByteArray) (p k:Nat):s.get! (p + k) = (s.data.toList.drop p).getD k 0:=by
 rw [List.getD_eq_getElem?_getD,List.getElem?_drop,Array.getElem?_toList]
 show s.data[p + k]! = _
 rw [getElem!_def]
 rcases s.data[p + k]? with _ | v <;> rfl
theorem decode_drop (s:ByteArray) (p:Nat):Utf8.decode s p = decL (s.data.toList.drop p):=by
 rw [Lib.decode_at]
 unfold decL
 rw [← get_drop,← get_drop,← get_drop,← get_drop,List.length_drop,Array.length_toList]
 rfl
def encU (r:Nat):List UInt8:=(encN r).map UInt8.ofNat
theorem encN_byte (r:Nat) (h:r ≤ 1114111):∀ x ∈ encN r,x < 256:=by
 unfold encN
 intro x hx
 repeat' split at hx
 all_goals simp only [List.mem_cons,List.not_mem_nil,or_false] at hx
 all_goals omega
theorem encN_ne (r:Nat):1 ≤ (encN r).length ∧ (encN r).length ≤ 4:=by
 unfold encN
 repeat' split
 all_goals simp
theorem chr_le {r:Nat} (h:chr r):r ≤ 1114111:=by unfold chr at h;omega
theorem toNat_of (x:Nat) (h:x < 256):(UInt8.ofNat x).toNat = x:=by
 rw [UInt8.toNat_ofNat'];omega
set_option maxHeartbeats 1000000 in
theorem dec_enc (r:Nat) (h:chr r) (x:List UInt8):decL (encU r ++ x) = (r,(encN r).length):=by
 unfold chr at h
 unfold decL encU encN
 by_cases h1:r < 128
 ·rw [if_pos h1]
  simp only [List.map_cons,List.map_nil,List.cons_append,List.nil_append,List.getD_cons_zero,List.length_cons,List.length_nil]
  rw [toNat_of r (by omega)]
  unfold Lib.decodeN
  rw [if_pos h1]
 ·rw [if_neg h1]
  by_cases h2:r < 2048
  ·rw [if_pos h2]
   simp only [List.map_cons,List.map_nil,List.cons_append,List.nil_append,List.getD_cons_zero,List.getD_cons_succ,List.length_cons,List.length_nil]
   rw [toNat_of (192 + r / 64) (by omega),toNat_of (128 + r % 64) (by omega)]
   unfold Lib.decodeN
   rw [if_neg (by omega),if_pos (by omega),if_pos (by omega)]
   congr 1;omega
  ·rw [if_neg h2]
   by_cases h3:r < 65536
   ·rw [if_pos h3]
    simp only [List.map_cons,List.map_nil,List.cons_append,List.nil_append,List.getD_cons_zero,List.getD_cons_succ,List.length_cons,List.length_nil]
    rw [toNat_of (224 + r / 4096) (by omega),toNat_of (128 + r / 64 % 64) (by omega),toNat_of (128 + r % 64) (by omega)]
    unfold Lib.decodeN
    rw [if_neg (by omega),if_neg (by omega),if_pos (by omega),if_pos (by omega)]
    congr 1;omega
   ·rw [if_neg h3]
    simp only [List.map_cons,List.map_nil,List.cons_append,List.nil_append,List.getD_cons_zero,List.getD_cons_succ,List.length_cons,List.length_nil]
    rw [toNat_of (240 + r / 262144) (by omega),toNat_of (128 + r / 4096 % 64) (by omega),toNat_of (128 + r / 64 % 64) (by omega),toNat_of (128 + r % 64) (by omega)]
    unfold Lib.decodeN
    rw [if_neg (by omega),if_neg (by omega),if_neg (by omega),if_pos (by omega),if_pos (by omega)]
    congr 1;omega
def strU (l:List UInt8):ByteArray:=⟨l.toArray⟩
theorem strU_data (l:List UInt8):(strU l).data.toList = l:=by simp [strU]
theorem strU_size (l:List UInt8):(strU l).size = l.length:=by simp [strU,ByteArray.size]
theorem decL_str (l:List UInt8) (p:Nat):decL (l.drop p) = Utf8.decode (strU l) p:=by rw [decode_drop,strU_data]
theorem map_of_to (l:List UInt8):(l.map UInt8.toNat).map UInt8.ofNat = l:=by
 induction l with
 | nil=>rfl
 | cons b l ih=>simp only [List.map_cons,ih,UInt8.ofNat_toNat]
theorem dec_inv (l:List UInt8) (h:l ≠ []):(chr (decL l).1 ∧ l = encU (decL l).1 ++ l.drop (decL l).2 ∧ (decL l).2 = (encN (decL l).1).length) ∨ decL l = (65533,1):=by
 have hp:0 < (strU l).size:=by rw [strU_size];exact List.length_pos_iff.2 h
 have e0:decL l = Utf8.decode (strU l) 0:=by rw [← decL_str,List.drop_zero]
 by_cases hg:(Utf8.decode (strU l) 0).1 = 65533 ∧ (Utf8.decode (strU l) 0).2 = 1
 ·right;rw [e0];exact Prod.ext hg.1 hg.2
 ·left
  obtain ⟨h1,h2⟩:=decode_good (strU l) 0 hp hg
  have hw:=decode_within (strU l) 0 hp
  rw [← e0] at h1 h2 hw
  refine ⟨h1,?_,?_⟩
  ·unfold bytesN at h2
   rw [strU_data,List.drop_zero,Nat.zero_add] at h2
   have h3:=congrArg (List.map UInt8.ofNat) h2
   rw [List.map_append,map_of_to,map_of_to] at h3
   exact h3
  ·unfold bytesN at h2
   have h3:=congrArg List.length h2
   rw [strU_data] at h3
   simp only [List.length_append,List.length_map,List.length_drop] at h3
   rw [strU_size] at hw
   omega
theorem dec_pos (l:List UInt8) (h:l ≠ []):1 ≤ (decL l).2:=by
 rcases dec_inv l h with ⟨_,_,h⟩ | h
 ·rw [h];exact (encN_ne _).1
 ·rw [h];exact Nat.le_refl _
end Go.Proofs.YtgjokdngbocehaaGreatDoor
namespace Go.Proofs.YtgjokdngbocehaaGreatDoor
open Go.RowKit Go.Lib
def rngs:List (List (Int × Int)) :=
 [[(9,10),(13,13),(32,55295),(57344,65533),(65536,1114111)],
  [(9,10),(13,13),(32,32)],
  [(65,90),(95,95),(97,122),(192,214),(216,246),(248,767),(880,893),(895,8191),(8204,8205),(8304,8591),(11264,12271),(12289,55295),(63744,64975),(65008,65533),(65536,983039)],
  [(45,46),(48,57),(65,90),(95,95),(97,122),(183,183),(192,214),(216,246),(248,893),(895,8191),(8204,8205),(8255,8256),(8304,8591),(11264,12271),(12289,55295),(63744,64975),(65008,65533),(65536,983039)],
  [(48,57)],
  [(48,57),(65,70),(97,102)]]
def rng (c:Nat):List (Int × Int):=rngs.getD c []
def rngData {H:Type}:DataW H:=.agg (rngs.map fun l=>.slice (l.map fun p=>.agg [.lit (.int .i32 p.1),.lit (.int .i32 p.2)]) [])
structure RangesAt (w:World) (g:Nat):Prop where
 lt:g < w.heap.size
 at':∀ c,c < 6 → ∃ b o cap,w.cell? ⟨g,c,none⟩ = some (.slice (some ⟨b,o,none⟩) (rng c).length cap) ∧ b < w.heap.size ∧
  ∀ i,(h:i < (rng c).length) → w.cell? ⟨b,o + i * 2,none⟩ = some (.int .i32 ((rng c)[i]).1) ∧ w.cell? ⟨b,o + i * 2 + 1,none⟩ = some (.int .i32 ((rng c)[i]).2)
theorem RangesAt.below {w w':World} {g:Nat} (h:RangesAt w g) (hb:Below w.heap.size w w'):RangesAt w' g :=
 ⟨Nat.lt_of_lt_of_le h.lt hb.size,fun c hc=>by
  obtain ⟨b,o,cap,h1,h2,h3⟩:=h.at' c hc
  refine ⟨b,o,cap,(hb.cell (p:=⟨g,c,none⟩) h.lt).trans h1,Nat.lt_of_lt_of_le h2 hb.size,fun i hi=>?_⟩
  obtain ⟨h4,h5⟩:=h3 i hi
  exact ⟨(hb.cell (p:=⟨b,o + i * 2,none⟩) h2).trans h4,(hb.cell (p:=⟨b,o + i * 2 + 1,none⟩) h2).trans h5⟩⟩
theorem span_desc:∃ f0 f1,Tryz.prog.underlying 200 = some (.struct #[f0,f1]) ∧ f0.type = 21 ∧ f1.type = 21 ∧ f0.offset = 0 ∧ f1.offset = 1:=by
 refine ⟨_,_,Tryz.underlying200,rfl,rfl,rfl,rfl⟩
theorem cellsSpan:Tryz.prog.cellsOf 200 = 2:=by kernel_rfl
theorem cellsI32:Tryz.prog.cellsOf 21 = 1:=by kernel_rfl
theorem cellsSpans:Tryz.prog.cellsOf 197 = 1:=by kernel_rfl
theorem cellsArr:Tryz.prog.cellsOf 239 = 6:=by kernel_rfl
section
variable {H:Type} {enc:TypeId × Value → H} {w:World} {base:Nat} {sp:Nat → Bool} {held:Bool} {fuel:Nat}
theorem span_read {cs:List Value} {p:Int × Int} {q:List MemPlace}
  (h:DataW.trod enc Tryz.prog w base sp held fuel 200 cs = some (.agg [.lit (.int .i32 p.1),.lit (.int .i32 p.2)],q)):cs = [.int .i32 p.1,.int .i32 p.2]:=by
 obtain ⟨f0,f1,hu,t0,t1,o0,o1⟩:=span_desc
 obtain ⟨y0,y1,n,hx,hl,h0,h1⟩:=Go.ChangeShapes.trod_struct2 hu h
 rw [t0,o0] at h0
 rw [t1,o1] at h1
 rw [cellsSpan] at hl
 rw [cellsI32] at h0 h1
 match cs,hl with
 | [c0,c1],_ =>
  obtain ⟨n0,e0,rfl,_⟩:=DataW.trod_int Tryz.underlying21 h0
  obtain ⟨n1,e1,rfl,_⟩:=DataW.trod_int Tryz.underlying21 h1
  simp at e0 e1
  subst e0
  subst e1
  simp only [Prod.mk.injEq,DataW.agg.injEq,List.cons.injEq,DataW.lit.injEq,Lit.int.injEq,and_true,true_and] at hx
  rw [hx.1.1,hx.1.2]
theorem spans_read {cs:List Value} {l:List (Int × Int)} {q:List MemPlace} (hl:0 < l.length)
  (h:DataW.trod enc Tryz.prog w base sp held fuel 197 cs = some (.slice (l.map fun p=>.agg [.lit (.int .i32 p.1),.lit (.int .i32 p.2)]) [],q)) :
  ∃ b o cap,cs = [.slice (some ⟨b,o,none⟩) l.length cap] ∧ b < w.heap.size ∧ ∀ i,(h:i < l.length) → w.cell? ⟨b,o + i * 2,none⟩ = some (.int .i32 (l[i]).1) ∧ w.cell? ⟨b,o + i * 2 + 1,none⟩ = some (.int .i32 (l[i]).2):=by
 rcases DataW.trod_slice Tryz.underlying197 h with ⟨_,hx⟩ | ⟨a,len,cap,elems,rest,n,_,rfl,hx,_,_,_,hel,hat,_,_⟩
 ·simp at hx
 ·simp only [Prod.mk.injEq,DataW.slice.injEq] at hx
  have hx1:=hx.1.1
  have hlen:len = l.length:=by
   have:=congrArg List.length hx1
   simp at this
   omega
  have each:∀ i,(h:i < l.length) → w.cells? base (a.add (i * 2)) 2 = some [.int .i32 (l[i]).1,.int .i32 (l[i]).2]:=by
   intro i hi
   have h1:=hat i (by omega)
   rw [cellsSpan] at h1
   have h2:elems[i]? = some elems[i]:=List.getElem?_eq_getElem (by omega)
   rw [h2,Option.bind_eq_some_iff] at h1
   obtain ⟨cs',hcs,hr⟩:=h1
   have h3:(elems.map (·.1))[i]? = some elems[i].1:=by rw [List.getElem?_map,h2];rfl
   rw [← hx1,List.getElem?_map,List.getElem?_eq_getElem hi] at h3
   simp only [Option.map_some,Option.some.injEq] at h3
   have h4:=span_read (p:=l[i]) (q:=elems[i].2) (by rw [hr,h3])
   rw [hcs,h4]
  have e0:=each 0 hl
  obtain ⟨_,_,hc0⟩:=World.cells?_some e0
  have hc0':=hc0 0 (by omega)
  obtain ⟨b,o,spt⟩:=a
  have hspt:spt = none:=by
   have:=World.cell?_spot hc0'
   simpa [Addr.add] using this
  subst hspt
  refine ⟨b,o,cap,by rw [hlen],?_,fun i hi=>?_⟩
  ·have:=World.cells?_block e0 (by omega)
   simpa [Addr.add] using this
  ·obtain ⟨_,_,hc⟩:=World.cells?_some (each i hi)
   have k0:=hc 0 (by omega)
   have k1:=hc 1 (by omega)
   rw [Addr.add_mid,Addr.add_mid] at k0 k1
   exact ⟨k0,k1⟩
theorem ranges_read {cs:List Value} {q:List MemPlace} (h:DataW.trod enc Tryz.prog w base sp held fuel 239 cs = some (rngData,q)) :
  cs.length = 6 ∧ ∀ c,c < 6 → ∃ b o cap,cs[c]? = some (.slice (some ⟨b,o,none⟩) (rng c).length cap) ∧ b < w.heap.size ∧
   ∀ i,(h:i < (rng c).length) → w.cell? ⟨b,o + i * 2,none⟩ = some (.int .i32 ((rng c)[i]).1) ∧ w.cell? ⟨b,o + i * 2 + 1,none⟩ = some (.int .i32 ((rng c)[i]).2):=by
 obtain ⟨xs,m,_,hx,hl,hxl,hat⟩:=DataW.trod_array Tryz.underlying239 h
 rw [cellsArr] at hl
 refine ⟨hl,fun c hc=>?_⟩
 have h1:=hat c hc
 rw [cellsSpans,List.getElem?_eq_getElem (by omega),Nat.mul_one] at h1
 have hx1:xs.map (·.1) = rngs.map fun l=>.slice (l.map fun p=>.agg [.lit (.int .i32 p.1),.lit (.int .i32 p.2)]) []:=by
  simp only [Prod.mk.injEq,rngData,DataW.agg.injEq] at hx
  exact hx.1.symm
 have hr:rngs[c]? = some (rng c):=by
  unfold rng
  rw [List.getD,List.getElem?_eq_getElem (show c < rngs.length from hc)]
  rfl
 have h3:(xs.map (·.1))[c]? = some (xs[c]'(by omega)).1:=by rw [List.getElem?_map,List.getElem?_eq_getElem (by omega)];rfl
 rw [hx1,List.getElem?_map,hr] at h3
 simp only [Option.map_some,Option.some.injEq] at h3
 have hpos:0 < (rng c).length:=by
  have:∀ c,c < 6 → 0 < (rng c).length:=by decide
  exact this c hc
 obtain ⟨b,o,cap,h4,h5⟩:=spans_read (l:=rng c) (q:=(xs[c]'(by omega)).2) hpos (by rw [h1,h3])
 refine ⟨b,o,cap,?_,h5⟩
 have h6:(cs.drop c).take 1 = [cs[c]'(by omega)]:=by
  rw [List.drop_eq_getElem_cons (by omega)];rfl
 rw [h6] at h4
 rw [List.getElem?_eq_getElem (by omega)]
 simpa using h4
end
theorem gRanges:Tryz.prog.globalNamed "gimlet/chars.ranges" = some 2:=by kernel_rfl
theorem gRangesType:(Tryz.prog.globals[2]?).map (·.type) = some 239:=by kernel_rfl
theorem ranges_of_laid {W:World} {r:List (String × DataW Unit)} (h:laidMet Tryz.prog (("gimlet/chars.ranges",rngData) :: r) W):RangesAt W 2:=by
 obtain ⟨ps,hl,_,_⟩:=h
 obtain ⟨g,t,cs,fuel,p,q,hn,hy,hv,hr,_,_⟩:=hl
 rw [gRanges] at hn
 injection hn with hn
 subst hn
 rw [gRangesType] at hy
 injection hy with hy
 subst hy
 obtain ⟨hlen,hat⟩:=ranges_read hr
 unfold World.var? at hv
 rw [gRanges] at hv
 simp only [Option.bind_some] at hv
 split at hv
 ·rename_i c e fz heq
  injection hv with hv
  subst hv
  refine ⟨heap_lt heq,fun k hk=>?_⟩
  obtain ⟨b,o,cap,h1,h2,h3⟩:=hat k hk
  exact ⟨b,o,cap,by rw [cell_heap heq,← h1];simp,h2,h3⟩
 ·cases hv
end Go.Proofs.YtgjokdngbocehaaGreatDoor
namespace Go.Proofs.YtgjokdngbocehaaGreatDoor
open Go.RowKit
def isR:List (Int × Int) → Int → Bool
 | [],_=>false
 | p :: l,r=>if r ≤ p.2 then decide (p.1 ≤ r) else isR l r
theorem isR_drop (l:List (Int × Int)) (r:Int) (k:Nat) (h:k < l.length):isR (l.drop k) r = if r ≤ l[k].2 then decide (l[k].1 ≤ r) else isR (l.drop (k + 1)) r:=by
 rw [List.drop_eq_getElem_cons h];rfl
def RetRng (w:World) (c:Nat) (e:Ending):Prop :=
 ∃ b o cap,e = .returned (.slice (some ⟨b,o,none⟩) (rng c).length cap) ∧ b < w.heap.size ∧
  ∀ i,(h:i < (rng c).length) → w.cell? ⟨b,o + i * 2,none⟩ = some (.int .i32 ((rng c)[i]).1) ∧ w.cell? ⟨b,o + i * 2 + 1,none⟩ = some (.int .i32 ((rng c)[i]).2)
theorem of_any (c:Nat) (hc:c < 6) (w:World) (hR:RangesAt w 2) :
  Calls Tryz.prog 133 #[.int .i64 c] w fun e w'=>RetRng w c e ∧ w' = w:=by
 obtain ⟨b,o,cap,h1,h2,h3⟩:=hR.at' c hc
 have H3:=Lib.hid h3
 clear h3 hR
 go_enter Tryz.func133,Tryz.ntmps133
 go_wp2
 go_ret
 exact ⟨⟨b,o,cap,rfl,h2,H3.out⟩,rfl⟩
set_option maxHeartbeats 1000000 in
theorem Is_any (c:Nat) (hc:c < 6) (r:Int) (w:World) (hR:RangesAt w 2) :
  Calls Tryz.prog 105 #[.int .i64 c,.int .i32 r] w fun e w'=>e = .returned (.bool (isR (rng c) r)) ∧ Below w.heap.size w w':=by
 have hlen:(rng c).length ≤ 20:=by
  have:∀ c,c < 6 → (rng c).length ≤ 20:=by decide
  exact this c hc
 have HO:=Lib.hid (of_any c hc w hR)
 clear hR
 go_enter Tryz.func105,Tryz.ntmps105
 go_wp2_with fail
 refine HO.out.mono ?_
 rintro e w1 ⟨⟨b,o,cap,rfl,hb,hcs⟩,rfl⟩
 have HC:=Lib.hid hcs
 clear hcs HO
 generalize hl:rng c = l at *
 have HL:=Lib.hid hl
 clear hl
 obtain ⟨n,hn⟩:∃ n,l.length = n:=⟨_,rfl⟩
 rw [hn] at hlen
 simp only [hn]
 have HN:=Lib.hid hn
 clear hn
 go_wp2_with fail
 go_loopw [10] (fun ix wr=>∃ k:Nat,ix = .int .i64 k ∧ k ≤ n ∧ Below w1.heap.size w1 wr ∧ Hid (isR (l.drop k) r = isR l r)) (fun ix _=>n - (intOf ix).toNat)
 case atStart=>exact ⟨0,rfl,Nat.zero_le _,Below.refl _ _,rfl⟩
 case round =>
  obtain ⟨k,rfl,hk,hbw,hr⟩:=hrel
  by_cases hkn:k < n
  ·have hkl:k < l.length:=by rw [HN.out];exact hkn
   obtain ⟨e0,e1⟩:=HC.out k hkl
   have hd:=hr.out
   rw [isR_drop l r k hkl] at hd
   rw [← hbw.cell (p:=⟨b,o + k * 2,none⟩) hb] at e0
   rw [← hbw.cell (p:=⟨b,o + k * 2 + 1,none⟩) hb] at e1
   generalize l[k] = p at *
   obtain ⟨lo,hi⟩:=p
   simp only at e0 e1 hd
   have HD:=Lib.hid hd
   have hws:w1.heap.size ≤ wr.heap.size:=hbw.size
   have HBW:=Lib.hid hbw
   clear hd hbw hr
   by_cases hle:r ≤ hi
   ·go_wp2
    go_ret
    exact ⟨ret_bool (by rw [HL.out,← HD.out,if_pos hle]),HBW.out.alloc hws _⟩
   ·have hgt:hi < r:=by omega
    go_wp2
    go_roundw
    case rel=>exact ⟨k + 1,by go_num,by omega,HBW.out.alloc hws _,by rw [if_neg hle] at HD;exact HD⟩
    case measure=>simp [intOf];omega
  ·have hd:=hr.out
   rw [List.drop_of_length_le (by rw [HN.out];omega)] at hd
   have HD:=Lib.hid hd
   clear hd hr
   go_wp2
   go_ret
   exact ⟨ret_bool (by rw [HL.out,← HD.out];rfl),hbw⟩
end Go.Proofs.YtgjokdngbocehaaGreatDoor
namespace Go.Proofs.YtgjokdngbocehaaGreatDoor
open Go.RowKit
def runesOk:Nat → List UInt8 → Bool
 | 0,_=>true
 | f + 1,l=>if l = [] then true else isR (rng 0) (decL l).1 && runesOk f (l.drop (decL l).2)
theorem runesOk_fuel (f:Nat):∀ (g:Nat) (l:List UInt8),l.length ≤ f → l.length ≤ g → runesOk f l = runesOk g l:=by
 induction f with
 | zero =>
  intro g l hf _
  obtain rfl:l = []:=List.eq_nil_of_length_eq_zero (by omega)
  cases g <;> rfl
 | succ f ih =>
  intro g l hf hg
  by_cases h:l = []
  ·subst h;cases g <;> rfl
  ·have hl:=List.length_pos_iff.2 h
   obtain ⟨g,rfl⟩:∃ k,g = k + 1:=⟨g - 1,by omega⟩
   have:=dec_pos l h
   simp only [runesOk]
   rw [if_neg h,if_neg h,ih g _ (by rw [List.length_drop];omega) (by rw [List.length_drop];omega)]
def okL (l:List UInt8):Bool:=runesOk l.length l
theorem okL_step (l:List UInt8) (h:l ≠ []):okL l = (isR (rng 0) (decL l).1 && okL (l.drop (decL l).2)):=by
 have hl:=List.length_pos_iff.2 h
 have:=dec_pos l h
 unfold okL
 obtain ⟨f,hf⟩:∃ f,l.length = f + 1:=⟨l.length - 1,by omega⟩
 rw [hf]
 simp only [runesOk]
 rw [if_neg h,runesOk_fuel f (l.drop (decL l).2).length _ (by rw [List.length_drop];omega) (Nat.le_refl _)]
def textsB (l:List UInt8):Bool:=okL l && Lib.validD l
theorem decodeL_dec (l:List UInt8):Lib.decodeL l = decL l:=by
 have:=decL_str l 0
 rw [List.drop_zero] at this
 rw [this];rfl
theorem textsB_good (l:List UInt8) (h:l ≠ []) (hg:¬ ((decL l).1 = 65533 ∧ (decL l).2 = 1)):textsB l = (isR (rng 0) (decL l).1 && textsB (l.drop (decL l).2)):=by
 unfold textsB
 rw [okL_step l h,Lib.validD_step l h,decodeL_dec,if_neg hg,Bool.and_assoc]
theorem textsB_wrong (l:List UInt8) (h:l ≠ []) (hg:(decL l).1 = 65533 ∧ (decL l).2 = 1):textsB l = false:=by
 unfold textsB
 rw [Lib.validD_step l h,decodeL_dec,if_pos hg,Bool.and_false]
end Go.Proofs.YtgjokdngbocehaaGreatDoor
namespace Go.Proofs.YtgjokdngbocehaaGreatDoor
open Go.RowKit
def leadN (x:Nat):Nat × Nat × Nat :=
 if x < 128 then (1,x,0) else if 192 ≤ x ∧ x < 224 then (2,x - 192,128) else if 224 ≤ x ∧ x < 240 then (3,x - 224,2048) else if 240 ≤ x ∧ x < 248 then (4,x - 240,65536) else (0,0,0)
def contN:List UInt8 → Nat → Option Nat
 | [],a=>some a
 | y :: l,a=>if y.toNat < 128 ∨ 191 < y.toNat then none else contN l (a * 64 + (y.toNat - 128))
def widN:Nat → Nat × Nat → Nat × Nat
 | 0,p=>p
 | k + 1,p=>widN k (p.1 * 64,p.2 * 64 + 63)
def spanL:List UInt8 → Nat × Nat
 | []=>(1,0)
 | x :: l =>
  if 4 < l.length + 1 ∨ (leadN x.toNat).1 < l.length + 1 then (1,0)
  else match contN l (leadN x.toNat).2.1 with
   | none=>(1,0)
   | some a=>(max (widN ((leadN x.toNat).1 - (l.length + 1)) (a,a)).1 (leadN x.toNat).2.2,min (widN ((leadN x.toNat).1 - (l.length + 1)) (a,a)).2 1114111)
theorem contN_cons (y:UInt8) (l:List UInt8) (a:Nat) (h:128 ≤ y.toNat ∧ y.toNat ≤ 191):contN (y :: l) a = contN l (a * 64 + (y.toNat - 128)):=by
 simp only [contN]
 rw [if_neg (by omega)]
theorem span_full (x:UInt8) (l:List UInt8) (n f m a:Nat) (h0:leadN x.toNat = (n,f,m)) (h1:l.length + 1 = n) (h4:n ≤ 4) (h2:contN l f = some a):spanL (x :: l) = (max a m,min a 1114111):=by
 simp only [spanL]
 rw [h0]
 simp only
 rw [h1,h2,if_neg (by omega),Nat.sub_self]
 rfl
set_option maxHeartbeats 2000000 in
theorem span_enc (r:Nat) (h:r ≤ 1114111):spanL (encU r) = (r,r):=by
 unfold encU encN
 by_cases h1:r < 128
 ·rw [if_pos h1]
  simp only [List.map_cons,List.map_nil]
  have e0:=toNat_of r (by omega)
  rw [span_full _ [] 1 r 0 r (by rw [e0];unfold leadN;rw [if_pos h1]) rfl (by decide) rfl]
  simp only [Prod.mk.injEq]
  omega
 ·rw [if_neg h1]
  by_cases h2:r < 2048
  ·rw [if_pos h2]
   simp only [List.map_cons,List.map_nil]
   have e0:=toNat_of (192 + r / 64) (by omega)
   have e1:=toNat_of (128 + r % 64) (by omega)
   rw [span_full _ _ 2 (192 + r / 64 - 192) 128 r (by rw [e0];unfold leadN;rw [if_neg (by omega),if_pos (by omega)]) rfl (by decide)
    (by rw [contN_cons _ _ _ (by omega),e1];simp only [contN,Option.some.injEq];omega)]
   simp only [Prod.mk.injEq]
   omega
  ·rw [if_neg h2]
   by_cases h3:r < 65536
   ·rw [if_pos h3]
    simp only [List.map_cons,List.map_nil]
    have e0:=toNat_of (224 + r / 4096) (by omega)
    have e1:=toNat_of (128 + r / 64 % 64) (by omega)
    have e2:=toNat_of (128 + r % 64) (by omega)
    rw [span_full _ _ 3 (224 + r / 4096 - 224) 2048 r (by rw [e0];unfold leadN;rw [if_neg (by omega),if_neg (by omega),if_pos (by omega)]) rfl (by decide)
     (by rw [contN_cons _ _ _ (by omega),contN_cons _ _ _ (by omega),e1,e2];simp only [contN,Option.some.injEq];omega)]
    simp only [Prod.mk.injEq]
    omega
   ·rw [if_neg h3]
    simp only [List.map_cons,List.map_nil]
    have e0:=toNat_of (240 + r / 262144) (by omega)
    have e1:=toNat_of (128 + r / 4096 % 64) (by omega)
    have e2:=toNat_of (128 + r / 64 % 64) (by omega)
    have e3:=toNat_of (128 + r % 64) (by omega)
    rw [span_full _ _ 4 (240 + r / 262144 - 240) 65536 r (by rw [e0];unfold leadN;rw [if_neg (by omega),if_neg (by omega),if_neg (by omega),if_pos (by omega)]) rfl (by decide)
     (by rw [contN_cons _ _ _ (by omega),contN_cons _ _ _ (by omega),contN_cons _ _ _ (by omega),e1,e2,e3];simp only [contN,Option.some.injEq];omega)]
    simp only [Prod.mk.injEq]
    omega
theorem span_same (l:List UInt8) (h:(spanL l).1 = (spanL l).2):(spanL l).1 ≤ 1114111:=by
 rw [h]
 rcases l with _ | ⟨x,l⟩
 ·simp [spanL]
 ·simp only [spanL]
  split
  ·decide
  ·split
   ·decide
   ·simp only;omega
theorem enc_head (r q:Nat) (hr:r ≤ 1114111) (hq:q ≤ 1114111) (y z:List UInt8) (h:encU r ++ y = encU q ++ z):(encN r).length = (encN q).length:=by
 have h2:=congrArg (List.map UInt8.toNat) h
 rw [List.map_append,List.map_append] at h2
 have hm:∀ r,r ≤ 1114111 → (encU r).map UInt8.toNat = encN r:=by
  intro r hr
  unfold encU
  rw [List.map_map]
  have:∀ l:List Nat,(∀ x ∈ l,x < 256) → l.map (UInt8.toNat ∘ UInt8.ofNat) = l:=by
   intro l
   induction l with
   | nil=>intro _;rfl
   | cons a l ih=>intro hl;rw [List.map_cons,ih (fun x hx=>hl x (by simp [hx]))];congr 1;exact toNat_of a (hl a (by simp))
  exact this _ (encN_byte r hr)
 rw [hm r hr,hm q hq] at h2
 clear h
 unfold encN at h2 ⊢
 by_cases a1:r < 128
 ·rw [if_pos a1] at h2 ⊢
  by_cases b1:q < 128
  ·rw [if_pos b1];rfl
  ·rw [if_neg b1] at h2 ⊢
   by_cases b2:q < 2048
   ·rw [if_pos b2] at h2;simp only [List.cons_append,List.cons.injEq] at h2;omega
   ·rw [if_neg b2] at h2
    by_cases b3:q < 65536
    ·rw [if_pos b3] at h2;simp only [List.cons_append,List.cons.injEq] at h2;omega
    ·rw [if_neg b3] at h2;simp only [List.cons_append,List.cons.injEq] at h2;omega
 ·rw [if_neg a1] at h2 ⊢
  by_cases a2:r < 2048
  ·rw [if_pos a2] at h2 ⊢
   by_cases b1:q < 128
   ·rw [if_pos b1] at h2;simp only [List.cons_append,List.cons.injEq] at h2;omega
   ·rw [if_neg b1] at h2 ⊢
    by_cases b2:q < 2048
    ·rw [if_pos b2];rfl
    ·rw [if_neg b2] at h2
     by_cases b3:q < 65536
     ·rw [if_pos b3] at h2;simp only [List.cons_append,List.cons.injEq] at h2;omega
     ·rw [if_neg b3] at h2;simp only [List.cons_append,List.cons.injEq] at h2;omega
  ·rw [if_neg a2] at h2 ⊢
   by_cases a3:r < 65536
   ·rw [if_pos a3] at h2 ⊢
    by_cases b1:q < 128
    ·rw [if_pos b1] at h2;simp only [List.cons_append,List.cons.injEq] at h2;omega
    ·rw [if_neg b1] at h2 ⊢
     by_cases b2:q < 2048
     ·rw [if_pos b2] at h2;simp only [List.cons_append,List.cons.injEq] at h2;omega
     ·rw [if_neg b2] at h2 ⊢
      by_cases b3:q < 65536
      ·rw [if_pos b3];rfl
      ·rw [if_neg b3] at h2;simp only [List.cons_append,List.cons.injEq] at h2;omega
   ·rw [if_neg a3] at h2 ⊢
    by_cases b1:q < 128
    ·rw [if_pos b1] at h2;simp only [List.cons_append,List.cons.injEq] at h2;omega
    ·rw [if_neg b1] at h2 ⊢
     by_cases b2:q < 2048
     ·rw [if_pos b2] at h2;simp only [List.cons_append,List.cons.injEq] at h2;omega
     ·rw [if_neg b2] at h2 ⊢
      by_cases b3:q < 65536
      ·rw [if_pos b3] at h2;simp only [List.cons_append,List.cons.injEq] at h2;omega
      ·rw [if_neg b3];rfl
def hitN (l:List UInt8) (n:Nat):Bool:=(spanL (l.take n)).1 == (spanL (l.take n)).2 && encU (spanL (l.take n)).1 == l.take n
def surr (r:Nat):Bool:=decide (55296 ≤ r ∧ r ≤ 57343)
def readR (l:List UInt8):Nat → Nat → Nat × Nat
 | 0,_=>(0,0)
 | f + 1,n=>if n ≤ 4 ∧ n ≤ l.length then (if hitN l n = true then (if surr (spanL (l.take n)).1 = true then (0,0) else ((spanL (l.take n)).1,n)) else readR l f (n + 1)) else (0,0)
theorem hit_inv (l:List UInt8) (n:Nat) (h:hitN l n = true):∃ r,r ≤ 1114111 ∧ (spanL (l.take n)).1 = r ∧ l.take n = encU r ∧ l = encU r ++ l.drop n:=by
 unfold hitN at h
 simp only [Bool.and_eq_true,beq_iff_eq] at h
 refine ⟨_,span_same _ h.1,rfl,h.2.symm,?_⟩
 rw [h.2,List.take_append_drop]
theorem readR_bad (l:List UInt8) (hb:(decL l).1 = 65533 ∧ (decL l).2 = 1):∀ f n,readR l f n = (0,0)
 | 0,_=>rfl
 | f + 1,n=>by
  simp only [readR]
  split
  ·by_cases h:hitN l n = true
   ·rw [if_pos h]
    obtain ⟨r,hr,e,_,hl⟩:=hit_inv l n h
    rw [e]
    by_cases hs:surr r = true
    ·rw [if_pos hs]
    ·exfalso
     have hc:chr r:=by
      unfold surr at hs
      simp only [decide_eq_true_eq] at hs
      unfold chr;omega
     have hd:=dec_enc r hc (l.drop n)
     rw [← hl] at hd
     rw [hd] at hb
     simp only at hb
     obtain ⟨rfl,h2⟩:=hb
     exact absurd h2 (by decide)
   ·rw [if_neg h]
    exact readR_bad l hb f (n + 1)
  ·rfl
theorem readR_good (l:List UInt8) (h:l ≠ []) (hg:¬ ((decL l).1 = 65533 ∧ (decL l).2 = 1)):∀ f n,n ≤ (decL l).2 → (decL l).2 < f + n → readR l f n = decL l:=by
 obtain ⟨hc,hl,hn⟩:chr (decL l).1 ∧ l = encU (decL l).1 ++ l.drop (decL l).2 ∧ (decL l).2 = (encN (decL l).1).length:=by
  rcases dec_inv l h with hi | hi
  ·exact hi
  ·exact absurd (by rw [hi];exact ⟨rfl,rfl⟩) hg
 have hll:(decL l).2 ≤ l.length:=by
  have:=congrArg List.length hl
  rw [List.length_append,encU,List.length_map,← hn] at this
  omega
 have h4:=(encN_ne (decL l).1).2
 intro f
 induction f with
 | zero=>intro n h1 h2;omega
 | succ f ih =>
  intro n h1 h2
  simp only [readR]
  rw [if_pos (by omega)]
  by_cases hh:hitN l n = true
  ·rw [if_pos hh]
   obtain ⟨r,hr,e,ht,hl2⟩:=hit_inv l n hh
   have h3:=enc_head r (decL l).1 hr (chr_le hc) (l.drop n) (l.drop (decL l).2) (by rw [← hl2,← hl])
   have h5:=congrArg List.length ht
   rw [List.length_take,encU,List.length_map,h3,← hn] at h5
   have h6:n = (decL l).2:=by omega
   have h7:encU r = encU (decL l).1:=by
    rw [← ht,h6]
    have:=congrArg (List.take (decL l).2) hl
    rw [this,List.take_append_of_le_length (by simp [encU,hn]),List.take_of_length_le (by simp [encU,hn])]
   have h8:=congrArg spanL h7
   rw [span_enc r hr,span_enc _ (chr_le hc)] at h8
   simp only [Prod.mk.injEq] at h8
   rw [e,h8.1]
   have hs:surr (decL l).1 = false:=by unfold surr;unfold chr at hc;simp only [decide_eq_false_iff_not];omega
   rw [hs,h6]
   simp
  ·rw [if_neg hh]
   by_cases h6:n = (decL l).2
   ·exfalso
    apply hh
    have ht:l.take n = encU (decL l).1:=by
     rw [h6]
     have:=congrArg (List.take (decL l).2) hl
     rw [this,List.take_append_of_le_length (by simp [encU,hn]),List.take_of_length_le (by simp [encU,hn])]
    unfold hitN
    rw [ht,span_enc _ (chr_le hc)]
    simp
   ·exact ih (n + 1) (by omega) (by omega)
def textsR:Nat → List UInt8 → Bool
 | 0,_=>true
 | f + 1,l=>if l = [] then true else if (readR l 4 1).2 = 0 ∨ isR (rng 0) (readR l 4 1).1 = false then false else textsR f (l.drop (readR l 4 1).2)
theorem textsR_eq (f:Nat):∀ l:List UInt8,l.length ≤ f → textsR f l = textsB l:=by
 induction f with
 | zero =>
  intro l h
  obtain rfl:l = []:=List.eq_nil_of_length_eq_zero (by omega)
  rfl
 | succ f ih =>
  intro l h
  simp only [textsR]
  by_cases h0:l = []
  ·subst h0;rfl
  ·rw [if_neg h0]
   by_cases hg:(decL l).1 = 65533 ∧ (decL l).2 = 1
   ·rw [readR_bad l hg,textsB_wrong l h0 hg]
    simp
   ·have hp:=dec_pos l h0
    have h4:(decL l).2 ≤ 4:=by
     rcases dec_inv l h0 with ⟨_,_,hi⟩ | hi
     ·rw [hi];exact (encN_ne _).2
     ·rw [hi];decide
    have hl:=List.length_pos_iff.2 h0
    rw [readR_good l h0 hg 4 1 hp (by omega),textsB_good l h0 hg,ih _ (by rw [List.length_drop];omega)]
    cases hi:isR (rng 0) (decL l).1 with
    | false=>simp
    | true=>rw [if_neg (by simp;omega)];simp
end Go.Proofs.YtgjokdngbocehaaGreatDoor
namespace Go.Proofs.YtgjokdngbocehaaGreatDoor
open Go.RowKit
def clsF:Nat → Nat → List UInt8 → Bool
 | 0,_,_=>true
 | f + 1,c,l=>if l = [] then true else isR (rng c) (decL l).1 && clsF f 3 (l.drop (decL l).2)
theorem clsF_fuel (f:Nat):∀ (g c:Nat) (l:List UInt8),l.length ≤ f → l.length ≤ g → clsF f c l = clsF g c l:=by
 induction f with
 | zero =>
  intro g c l hf _
  obtain rfl:l = []:=List.eq_nil_of_length_eq_zero (by omega)
  cases g <;> rfl
 | succ f ih =>
  intro g c l hf hg
  by_cases h:l = []
  ·subst h;cases g <;> rfl
  ·have hl:=List.length_pos_iff.2 h
   obtain ⟨g,rfl⟩:∃ k,g = k + 1:=⟨g - 1,by omega⟩
   have:=dec_pos l h
   simp only [clsF]
   rw [if_neg h,if_neg h,ih g 3 _ (by rw [List.length_drop];omega) (by rw [List.length_drop];omega)]
def clsL (c:Nat) (l:List UInt8):Bool:=clsF l.length c l
theorem clsL_nil (c:Nat):clsL c [] = true:=rfl
theorem clsL_step (c:Nat) (l:List UInt8) (h:l ≠ []):clsL c l = (isR (rng c) (decL l).1 && clsL 3 (l.drop (decL l).2)):=by
 have hl:=List.length_pos_iff.2 h
 have:=dec_pos l h
 unfold clsL
 obtain ⟨f,hf⟩:∃ f,l.length = f + 1:=⟨l.length - 1,by omega⟩
 rw [hf]
 simp only [clsF]
 rw [if_neg h,clsF_fuel f (l.drop (decL l).2).length 3 _ (by rw [List.length_drop];omega) (Nat.le_refl _)]
def nameB (l:List UInt8):Bool:=!l.isEmpty && (clsL 2 l && Lib.validD l)
def allC:Nat → Nat → List UInt8 → Bool
 | 0,_,_=>true
 | f + 1,c,l=>if l = [] then true else if (readR l 4 1).2 = 0 ∨ isR (rng c) (readR l 4 1).1 = false then false else allC f 3 (l.drop (readR l 4 1).2)
theorem allC_succ (f c:Nat) (l:List UInt8):allC (f + 1) c l = if l = [] then true else if (readR l 4 1).2 = 0 ∨ isR (rng c) (readR l 4 1).1 = false then false else allC f 3 (l.drop (readR l 4 1).2):=rfl
theorem allC_nil (f c:Nat):allC f c [] = true:=by cases f <;> rfl
theorem allC_eq (f:Nat):∀ (c:Nat) (l:List UInt8),l.length ≤ f → allC f c l = (clsL c l && Lib.validD l):=by
 induction f with
 | zero =>
  intro c l h
  obtain rfl:l = []:=List.eq_nil_of_length_eq_zero (by omega)
  rfl
 | succ f ih =>
  intro c l h
  rw [allC_succ]
  by_cases h0:l = []
  ·subst h0;rfl
  ·rw [if_neg h0]
   by_cases hg:(decL l).1 = 65533 ∧ (decL l).2 = 1
   ·rw [readR_bad l hg,Lib.validD_step l h0,decodeL_dec,if_pos hg]
    simp
   ·have hp:=dec_pos l h0
    have h4:(decL l).2 ≤ 4:=by
     rcases dec_inv l h0 with ⟨_,_,hi⟩ | hi
     ·rw [hi];exact (encN_ne _).2
     ·rw [hi];decide
    have hl:=List.length_pos_iff.2 h0
    rw [readR_good l h0 hg 4 1 hp (by omega),clsL_step c l h0,Lib.validD_step l h0,decodeL_dec,if_neg hg,ih 3 _ (by rw [List.length_drop];omega)]
    cases hi:isR (rng c) (decL l).1 with
    | false=>simp
    | true=>rw [if_neg (by simp;omega)];simp
theorem allC_fuel (f g c:Nat) (l:List UInt8) (hf:l.length ≤ f) (hg:l.length ≤ g):allC f c l = allC g c l:=by rw [allC_eq f c l hf,allC_eq g c l hg]
theorem nameB_ref (l:List UInt8):nameB l = (!l.isEmpty && allC l.length 2 l):=by
 unfold nameB;rw [allC_eq _ 2 l (Nat.le_refl _)]
end Go.Proofs.YtgjokdngbocehaaGreatDoor
