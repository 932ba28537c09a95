/-
  strings.Replacer over pairs of one byte and a text: its build, the walk.
-/
import Derived.Deep.CutBlock
import Derived.Lib.Bytealg
import Derived.Laws.CopyOwn
import Derived.Test.YtgjokdngbocehaaGreatDoorShelf
import Derived.Deep.DeepCutAuto
import Derived.Deep.RegionLaw
import Derived.Test.YtgjokdngbocehaaGreatDoorHsA
namespace Go.Proofs.YtgjokdngbocehaaGreatDoor
open Go.RowKit
def RetTab (w:World) (e:Ending) (w':World) (ps:List (UInt8 × ByteArray)):Prop :=
 ∃ G,e = .returned (.iface 256 (.pointer (some ⟨G,0,none⟩))) ∧ BuildInv w w' G ps
set_option maxRecDepth 100000 in
set_option maxHeartbeats 1600000 in
theorem build_any (ps:List (UInt8 × ByteArray)) (b:Nat) (a:Option Addr) (n c:Nat) (d0 d1 d2 x3:Value) (w:World)
  (hw:w.heap[b]? = some (.cells #[d0,d1,d2,x3,.slice a n c] 236 (0,0))) (hs:Sl w a n (strsOf ps))
  (hlen:2 ≤ ps.length) (hsm:ps.length ≤ 256) (hnd:(ps.map (·.1)).Nodup) (hbig:∀ p ∈ ps,p.2.size ≤ 1048576) (hwide:ps.all (fun p=>p.2.size == 1) = false) :
  Calls Tryz.prog 155 #[.pointer (some ⟨b,0,none⟩)] w fun e w'=>RetTab w e w' ps:=by
 have c4:=cell_heap (i:=4) hw
 simp only [List.getElem?_toArray,List.getElem?_cons_zero,List.getElem?_cons_succ] at c4
 have hn:n = 2 * ps.length:=by have:=hs.len;rw [strsOf_length] at this;exact this
 obtain ⟨ba,oa,rfl,hba,hcs⟩:=strs_cells hs (by omega)
 have hs1:∀ o,(str1 o).size = 1:=fun _=>rfl
 have hn2:((n:Int) == 2) = false:=by simp;omega
 have HN:=Lib.hid hn
 have HCS:=Lib.hid hcs
 have hnb:n ≤ 512:=by omega
 clear hn hcs
 go_enter Tryz.func155,Tryz.ntmps155
 go_wp2_with fail
 go_loop [4,5] (fun al i=>∃ (j:Nat) (f:Bool),al = .bool f ∧ i = .int .i64 j ∧ j ≤ n ∧ Hid (∃ k,j = 2 * k ∧ f = (ps.take k).all (fun p=>p.2.size == 1))) (fun _ i=>n - (intOf i).toNat)
 case atStart=>exact ⟨0,true,rfl,rfl,Nat.zero_le _,0,rfl,rfl⟩
 case round =>
  obtain ⟨j,f,rfl,rfl,hj,hk⟩:=hrel
  by_cases hlt:j < n
  ·obtain ⟨k,hjk,hf⟩:=hk.out
   have hkl:k < ps.length:=by have:=HN.out;omega
   obtain ⟨e1,e2⟩:=HCS.out k hkl
   rw [← hjk] at e1 e2
   have hnext:j + 2 ≤ n:=by have:=HN.out;omega
   have HK:Hid (∃ k',j + 2 = 2 * k' ∧ (f && (ps[k].2.size == 1)) = (ps.take k').all (fun p=>p.2.size == 1)):=by
    refine ⟨k + 1,by omega,?_⟩
    rw [List.take_succ_eq_append_getElem hkl,List.all_append,← hf]
    simp
   have hsz:ps[k].2.size ≤ 1048576:=hbig _ (List.getElem_mem hkl)
   clear hf hjk hk
   generalize ps[k].1 = o at e1
   generalize ps[k].2 = nn at e2 HK hsz
   by_cases h1:nn.size = 1
   ·have HK2:Hid (∃ k',j + 2 = 2 * k' ∧ f = (ps.take k').all (fun p=>p.2.size == 1)):=by
     obtain ⟨k',h3,h4⟩:=HK;exact ⟨k',h3,by rw [← h4,h1];simp⟩
    go_wp2_with fail
    go_round
    case rel=>exact ⟨j + 2,f,rfl,by go_num,hnext,HK2⟩
    case measure=>simp [intOf];omega
   ·have HK2:Hid (∃ k',j + 2 = 2 * k' ∧ false = (ps.take k').all (fun p=>p.2.size == 1)):=by
     obtain ⟨k',h3,h4⟩:=HK;exact ⟨k',h3,by rw [← h4];simp [h1]⟩
    go_wp2_with fail
    go_round
    case rel=>exact ⟨j + 2,false,rfl,by go_num,hnext,HK2⟩
    case measure=>simp [intOf];omega
  ·have hff:f = false:=by
    obtain ⟨k,hjk,hf⟩:=hk.out
    rw [List.take_of_length_le (by have:=HN.out;omega),hwide] at hf
    exact hf
   subst hff
   obtain ⟨is,his,hisz,his1,his2⟩:=info_parts info_str
   obtain ⟨it,hit,hitz,hits⟩:=info_parts2 info_tab
   have hh:((n / 2:Nat):Int) = (n:Int) / 2:=by omega
   go_upto_region 26 with (fail)
   apply wp_region_lit
   go_wp2_with (at_make;go_loud (refine wpList_make_own _ rfl _ _ 220 rfl w.heap.size 9 is (.string ByteArray.empty) 1 Tryz.underlying220 his hisz his1 .i64 .i64 _ (n / 2) (by rfl) (by rfl) (by omega) (by rw [his2];omega) (by unfold maxLen;omega) (Nat.le_refl _) (fun w1 hown1 hgrow1=>?_);refine wpList_new _ _ _ rfl rfl rfl 255 [(1,.tmp 94)] 95 11 rfl rfl rfl rfl rfl rfl (by decide) (by simp [Act.put]) (by simp [Act.put]) (build_tab _ _ _ _) hit hitz (by rw [hits,tab0_size]) (by rw [tab0_size,tab0_size]) (tab0_one _ _ _) ?_))
   have hb1:Below w.heap.size w w1:=(Below.refl _ _).grown hgrow1 (Nat.le_refl _) (by intro k hk;cases hk)
   have hlt1:=hown1.lt _ rfl
   have hgt:w.heap.size < w1.heap.size:=by have:=hlt1.2;simpa using this
   have hst:Hid (BuildInv w (w1.alloc (.cells (tab0 (.slice (some ⟨w.heap.size,0,none⟩) 0 (n / 2))) 255)) w1.heap.size (ps.drop ps.length)):=by
    rw [List.drop_of_length_le (Nat.le_refl _)]
    refine ⟨hb1.alloc hb1.size _,hgt,_,.slice (some ⟨w.heap.size,0,none⟩) 0 (n / 2),heap_alloc_new _ _,tab0_size _,by unfold tab0;rw [Array.getElem?_push,if_pos (by simp)],hown1.alloc _,?_,?_⟩
    ·intro e;injection e with e;simp at e;omega
    ·intro o
     have ho:o.toNat < 256:=o.toNat_lt
     refine ⟨.slice none 0 0,?_,rfl,fun h hh=>by cases hh⟩
     unfold tab0
     rw [Array.getElem?_push,if_neg (by simp;omega),Array.getElem?_replicate,if_pos ho]
   generalize w1.alloc (.cells (tab0 (.slice (some ⟨w.heap.size,0,none⟩) 0 (n / 2))) 255) = ws at hst
   generalize w1.heap.size = G at hgt hst
   clear hown1 hgrow1 hb1 hlt1
   have hlast:((n:Int) - 2) = 2 * (ps.length:Int) - 2:=by have:=HN.out;omega
   rw [hlast]
   clear hlast hh
   go_loopw [12,13,14] (fun i _ _ wr=>∃ (j:Nat),i = .int .i64 (2 * (j:Int) - 2) ∧ j ≤ ps.length ∧ Hid (BuildInv w wr G (ps.drop j))) (fun i _ _ _=>(intOf i + 2).toNat)
   case atStart=>exact ⟨ps.length,rfl,Nat.le_refl _,hst⟩
   case round =>
    clear hst
    obtain ⟨j,rfl,hj,hI⟩:=hrel
    cases j with
    | zero =>
     go_wp2
     go_ret
     exact ⟨G,rfl,hI.out⟩
    | succ j =>
     have hjl:j < ps.length:=by omega
     rw [show (2 * ((j + 1:Nat):Int) - 2) = ((2 * j:Nat):Int) by omega]
     obtain ⟨e1,e2⟩:=HCS.out j hjl
     have hI':=hI.out
     obtain ⟨below,hGlt,C,v,hG,hC,hC256,hown,hvG,hents⟩:=hI'
     have hnotin:look (ps.drop (j + 1)) ps[j].1 = none:=by
      refine look_none _ _ fun hm=>?_
      rw [List.map_drop] at hm
      have hnd2:=hnd
      rw [← List.take_append_drop j (ps.map (·.1)),List.nodup_append] at hnd2
      have hdj:(ps.map (·.1)).drop j = ps[j].1 :: (ps.map (·.1)).drop (j + 1):=by
       rw [List.drop_eq_getElem_cons (by simpa using hjl)];simp
      have hnd3:=hnd2.2.1
      rw [hdj,List.nodup_cons] at hnd3
      exact hnd3.1 hm
     have hdrop:ps.drop j = (ps[j].1,ps[j].2) :: ps.drop (j + 1):=by rw [List.drop_eq_getElem_cons hjl]
     generalize ps[j].1 = o at e1 hnotin hdrop
     generalize ps[j].2 = nn at e2 hdrop
     generalize hk:2 * j = k at e1 e2
     rw [← below.cell (p:=⟨ba,oa + k,none⟩) hba] at e1
     rw [← below.cell (p:=⟨ba,oa + (k + 1),none⟩) hba] at e2
     have hkb:k + 1 < n:=by have:=HN.out;omega
     have HK:=Lib.hid hk
     have HD:=Lib.hid hdrop
     have HE:=Lib.hid hents
     obtain ⟨m,hm⟩:∃ m,(ps.drop (j + 1)).length = m:=⟨_,rfl⟩
     rw [hm] at hown
     have hm256:m ≤ 256:=by rw [← hm,List.length_drop];omega
     have HM:=Lib.hid hm
     clear hm
     have HO:=Lib.hid hown
     have HV:=Lib.hid hvG
     have HB:=Lib.hid below
     obtain ⟨u0,hu0,he0,_⟩:=hents o
     rw [hnotin] at he0
     have he0':u0 = .slice none 0 0:=he0
     rw [he0'] at hu0
     have g0:wr.cell? ⟨G,o.toNat,none⟩ = some (.slice none 0 0):=by rw [cell_heap hG];exact hu0
     have g1:wr.cell? ⟨G,256,none⟩ = some v:=by rw [cell_heap hG];exact hC256
     have ho:o.toNat < 256:=o.toNat_lt
     have hidx:∀ W,(Instr.index 9 (.string (str1 o)) (.int .i64 0)).run Tryz.prog W = .ok (.int .u8 o.toNat) W:=fun W=>by kernel_rfl
     have HG:=Lib.hid hG
     have H256:=Lib.hid hC256
     clear he0' he0 hu0 hnotin hk hents hown hvG below hI hdrop hG hC256
     have hnil:∀ W,(binOp .eql 136 (.slice none 0 0) (.slice none 0 0)).run Tryz.prog W = .ok (.bool true) W:=fun W=>Lib.run_eql_slice_nil W 136 5 none 0 0 0 0 Tryz.underlying136
     have hcs:∀ W,(convert 136 9 (.slice (some ⟨wr.heap.size,0,none⟩) 1 1)).run Tryz.prog (W:World) = (convert 136 9 (.slice (some ⟨wr.heap.size,0,none⟩) 1 1)).run Tryz.prog W:=fun _=>rfl
     clear hcs
     have hcs:(convert 136 9 (.slice (some ⟨wr.heap.size,0,none⟩) 1 1)).run Tryz.prog (wr.alloc (.cells #[.int .u8 o.toNat] 5)) = .ok (.string (str1 o)) (wr.alloc (.cells #[.int .u8 o.toNat] 5)):=by
      refine run_bytes_str (s:=str1 o) ⟨rfl,fun i hi=>?_⟩ 136 9 5 Tryz.underlying136 Tryz.underlying5 Tryz.underlying9 1
      have hi0:i = 0:=by have:(bytesV (str1 o)).length = 1:=rfl;omega
      subst hi0
      refine ⟨wr.heap.size,0,rfl,by simp,?_⟩
      rw [cell_heap (heap_alloc_new wr _)]
      rfl
     have HST:=Lib.hid (show str1 o = str1 o from rfl)
     have hGl:G < wr.heap.size:=heap_lt HG.out
     have hGl1:G < (wr.alloc (.cells #[.int .u8 o.toNat] 5)).heap.size:=by simp;omega
     have hbl:w.heap.size ≤ wr.heap.size:=HB.out.size
     generalize hon:o.toNat = on at *
     have HON:=Lib.hid hon
     clear hon
     go_upto_region 34 with (at_builtin;go_loud (refine wpList_app (wr.alloc (.cells #[.int .u8 on] 5)) rfl _ _ 220 (by rfl) w.heap.size 9 is (.string ByteArray.empty) 1 16 Tryz.underlying220 his hisz his1 his2 rfl (by decide) _ _ _ (by rfl) (HO.out.alloc _) (wr.heap.size + 1) (by simp) 1 [.string (str1 o)] (by rfl) rfl (by simp [Value.oneCell']) (by simp;omega) (by decide) (by simp;omega) (fun v3 w3 hown3 happ3=>?_));obtain ⟨av,cv,rfl,hsl3⟩:=own_sl hown3;have c3:w3.heap[G]? = some (.cells C 255 (0,0)):=(happ3.keep (by simp;omega) HV.out).trans ((Below.heap_alloc _ _ _ (by simp;omega)).trans ((Below.heap_alloc _ _ _ (by omega)).trans HG.out));have g3:w3.cell? ⟨G,256,none⟩ = some v:=(cell_heap c3).trans H256.out;have f3:w3.frozen? ⟨G,256,none⟩ = false:=frozen_heap c3;have H3:=Lib.hid c3;clear c3;have HA3:=Lib.hid happ3;clear happ3;have HO3:=Lib.hid hown3;clear hown3)
     have c5:=(Lib.bytesWorld_at_old (w3.setCell ⟨G,256,none⟩ (.slice av (m + 1) cv)) 5 nn G (by simp [World.setCell];exact heap_lt H3.out)).trans (setCell_heap H3.out _)
     have g5:(Lib.bytesWorld (w3.setCell ⟨G,256,none⟩ (.slice av (m + 1) cv)) 5 nn).cell? ⟨G,on,none⟩ = some (.slice none 0 0):=by
      rw [cell_heap c5,Array.getElem?_setIfInBounds_ne (by omega)]
      rw [← g0,cell_heap HG.out]
     have f5:(Lib.bytesWorld (w3.setCell ⟨G,256,none⟩ (.slice av (m + 1) cv)) 5 nn).frozen? ⟨G,on,none⟩ = false:=frozen_heap c5
     have hbs:=fun W=>Lib.run_convert_string_bytes (P:=Tryz.prog) W 9 136 5 nn Tryz.underlying9 Tryz.underlying136 Tryz.underlying5
     clear c5 g0 g1 g3 f3 hcs
     go_wp2_with fail
     go_roundw
     case rel =>
      refine ⟨j,by have:=HK.out;congr 1;omega,by omega,?_⟩
      show BuildInv _ _ _ _
      rw [HD.out,← HON.out]
      refine BuildInv.step HB.out hGlt HG.out hC HV.out HE.out (fun k hk=>(HO.out.lt k hk).1) (((Below.refl _ _).alloc (Nat.le_refl _) (.cells #[.int .u8 on] 5)).alloc (by simp) (.cells #[.string (str1 o)] 9)) HA3.out (by rw [HM.out];exact HO3.out) ((bytesW_below _ _ _).mono (by simp [World.setCell])) ⟨_,_,rfl,?_⟩ (fun h hh=>?_)
      ·have:=bytesW_sl (w3.setCell ⟨G,256,none⟩ (.slice av (m + 1) cv)) 5 nn
       simpa [World.setCell] using this
      ·injection hh with hh
       subst hh
       rw [Lib.bytesWorld_size]
       simp [World.setCell]
     case measure=>simp [intOf];omega
end Go.Proofs.YtgjokdngbocehaaGreatDoor
namespace Go.Proofs.YtgjokdngbocehaaGreatDoor
open Go.RowKit
def form (ps:List (UInt8 × ByteArray)) (b:UInt8):List UInt8:=match look ps b with | none=>[b] | some n=>n.data.toList
def replL (ps:List (UInt8 × ByteArray)) (l:List UInt8):List UInt8:=l.flatMap (form ps)
def replS (ps:List (UInt8 × ByteArray)) (s:ByteArray):ByteArray:=⟨(replL ps s.data.toList).toArray⟩
def gain (ps:List (UInt8 × ByteArray)) (b:UInt8):Int:=((form ps b).length:Int) - 1
def gains (ps:List (UInt8 × ByteArray)) (l:List UInt8):Int:=(l.map (gain ps)).sum
def hit (ps:List (UInt8 × ByteArray)) (l:List UInt8):Bool:=l.any fun b=>(look ps b).isSome
theorem replL_length (ps:List (UInt8 × ByteArray)) (l:List UInt8):((replL ps l).length:Int) = l.length + gains ps l:=by
 induction l with
 | nil=>rfl
 | cons b l ih =>
  have e:replL ps (b :: l) = form ps b ++ replL ps l:=rfl
  have e2:gains ps (b :: l) = gain ps b + gains ps l:=by simp [gains]
  rw [e,List.length_append,e2,List.length_cons]
  unfold gain
  omega
theorem replL_snoc (ps:List (UInt8 × ByteArray)) (l:List UInt8) (b:UInt8):replL ps (l ++ [b]) = replL ps l ++ form ps b:=by simp [replL]
theorem gains_snoc (ps:List (UInt8 × ByteArray)) (l:List UInt8) (b:UInt8):gains ps (l ++ [b]) = gains ps l + gain ps b:=by simp [gains]
theorem hit_snoc (ps:List (UInt8 × ByteArray)) (l:List UInt8) (b:UInt8):hit ps (l ++ [b]) = (hit ps l || (look ps b).isSome):=by simp [hit]
theorem no_hit (ps:List (UInt8 × ByteArray)) (l:List UInt8) (h:hit ps l = false):replL ps l = l:=by
 induction l with
 | nil=>rfl
 | cons b l ih =>
  have e:hit ps (b :: l) = ((look ps b).isSome || hit ps l):=rfl
  rw [e,Bool.or_eq_false_iff] at h
  have e2:replL ps (b :: l) = form ps b ++ replL ps l:=rfl
  rw [e2,ih h.2]
  have e3:look ps b = none:=by simpa using h.1
  simp [form,e3]
def cgain (l:List UInt8) (p:UInt8 × ByteArray):Int:=(Lib.countByte l p.1:Int) * ((p.2.size:Int) - 1)
def cgains (qs:List (UInt8 × ByteArray)) (l:List UInt8):Int:=(qs.map (cgain l)).sum
def cany (qs:List (UInt8 × ByteArray)) (l:List UInt8):Bool:=qs.any fun p=>Lib.countByte l p.1 != 0
theorem cgains_snoc (qs:List (UInt8 × ByteArray)) (p:UInt8 × ByteArray) (l:List UInt8):cgains (qs ++ [p]) l = cgains qs l + cgain l p:=by simp [cgains]
theorem cany_snoc (qs:List (UInt8 × ByteArray)) (p:UInt8 × ByteArray) (l:List UInt8):cany (qs ++ [p]) l = (cany qs l || Lib.countByte l p.1 != 0):=by simp [cany]
theorem gain_none (ps:List (UInt8 × ByteArray)) (b:UInt8) (h:look ps b = none):gain ps b = 0:=by simp [gain,form,h]
theorem size_data (n:ByteArray):n.data.toList.length = n.size:=by rw [Array.length_toList];rfl
theorem one_byte (ps:List (UInt8 × ByteArray)) (b:UInt8) (hnd:(ps.map (·.1)).Nodup) :
  (ps.map fun p=>(if p.1 = b then ((p.2.size:Int) - 1) else 0)).sum = gain ps b:=by
 induction ps with
 | nil=>simp [gain,form,look]
 | cons p ps ih =>
  simp only [List.map_cons,List.nodup_cons] at hnd
  have ih:=ih hnd.2
  rw [List.map_cons,List.sum_cons,ih]
  by_cases h:p.1 = b
  ·have hn:look ps b = none:=look_none ps b (by rw [← h];exact hnd.1)
   rw [if_pos h,gain_none ps b hn]
   have e:look (p :: ps) b = some p.2:=by rw [look_cons,if_pos h]
   simp only [gain,form,e,size_data]
   omega
  ·rw [if_neg h]
   have e:look (p :: ps) b = look ps b:=by rw [look_cons,if_neg h]
   simp only [gain,form,e]
   omega
theorem cgains_cons (ps:List (UInt8 × ByteArray)) (b:UInt8) (l:List UInt8) :
  cgains ps (b :: l) = (ps.map fun p=>(if p.1 = b then ((p.2.size:Int) - 1) else 0)).sum + cgains ps l:=by
 induction ps with
 | nil=>rfl
 | cons p ps ih =>
  have e:∀ m,cgains (p :: ps) m = cgain m p + cgains ps m:=fun m=>by simp [cgains]
  rw [e,e,ih,List.map_cons,List.sum_cons]
  have e2:cgain (b :: l) p = (if p.1 = b then ((p.2.size:Int) - 1) else 0) + cgain l p:=by
   unfold cgain Lib.countByte
   rw [List.count_cons]
   by_cases h:p.1 = b
   ·rw [if_pos h,if_pos (by simp [h])]
    rw [Int.natCast_add,Int.add_mul]
    simp
    omega
   ·rw [if_neg h,if_neg (by simpa using fun e=>h e.symm)]
    simp
  rw [e2]
  omega
theorem cgains_eq (ps:List (UInt8 × ByteArray)) (hnd:(ps.map (·.1)).Nodup) (l:List UInt8):cgains ps l = gains ps l:=by
 induction l with
 | nil =>
  have:∀ qs:List (UInt8 × ByteArray),cgains qs [] = 0:=by
   intro qs
   induction qs with
   | nil=>rfl
   | cons p qs ih =>
    have e:cgains (p :: qs) [] = cgain [] p + cgains qs []:=by simp [cgains]
    rw [e,ih]
    simp [cgain,Lib.countByte]
  rw [this]
  rfl
 | cons b l ih =>
  rw [cgains_cons,one_byte ps b hnd,ih]
  simp [gains]
theorem cgains_rev (ps:List (UInt8 × ByteArray)) (l:List UInt8):cgains ps.reverse l = cgains ps l:=by
 unfold cgains
 induction ps with
 | nil=>rfl
 | cons p ps ih =>
  rw [List.reverse_cons,List.map_append,List.sum_append,ih,List.map_cons,List.map_cons,List.sum_cons,List.map_nil,List.sum_cons,List.sum_nil]
  omega
theorem cany_eq (ps:List (UInt8 × ByteArray)) (l:List UInt8):cany ps l = hit ps l:=by
 rw [Bool.eq_iff_iff]
 simp only [cany,hit,List.any_eq_true,bne_iff_ne,ne_eq]
 constructor
 ·rintro ⟨p,hp,hc⟩
  have hm:p.1 ∈ l:=List.count_pos_iff.1 (Nat.pos_of_ne_zero hc)
  refine ⟨p.1,hm,?_⟩
  unfold look
  cases hf:ps.find? (fun q=>q.1 == p.1) with
  | none=>have:=List.find?_eq_none.1 hf p hp;simp at this
  | some q=>rfl
 ·rintro ⟨b,hb,hs⟩
  unfold look at hs
  cases hf:ps.find? (fun q=>q.1 == b) with
  | none=>rw [hf] at hs;cases hs
  | some q =>
   have h1:=List.mem_of_find?_eq_some hf
   have h2:=List.find?_some hf
   simp at h2
   refine ⟨q,h1,?_⟩
   have:0 < Lib.countByte l q.1:=List.count_pos_iff.2 (by rw [h2];exact hb)
   omega
theorem cany_rev (ps:List (UInt8 × ByteArray)) (l:List UInt8):cany ps.reverse l = cany ps l:=by simp [cany]
structure TabOK (w:World) (G:Nat) (ps:List (UInt8 × ByteArray)):Prop where
 tab:∃ (C:Array Value) (a:Option Addr) (n c:Nat),w.heap[G]? = some (.cells C 255 (0,0)) ∧ C[256]? = some (.slice a n c) ∧ Sl w a n (ps.reverse.map fun p=>Value.string (str1 p.1)) ∧
  ∀ o:UInt8,∃ u,C[o.toNat]? = some u ∧ Ent w u (look ps o)
theorem BuildInv.okAt {w wr w':World} {G:Nat} {ps:List (UInt8 × ByteArray)} (h:BuildInv w wr G ps) (hk:∀ k,w.heap.size ≤ k → k < wr.heap.size → w'.heap[k]? = wr.heap[k]?):TabOK w' G ps:=by
 obtain ⟨_,hG0,C,v,hG,_,h256,hown,_,hents⟩:=h
 have hGl:=heap_lt hG
 have hol:=hown.lt
 obtain ⟨a,c,rfl,hs⟩:=own_sl hown
 refine ⟨C,a,ps.length,c,(hk G (by omega) hGl).trans hG,h256,hs.keep fun b o e=>?_,fun o=>?_⟩
 ·have:=hol b (by rw [e];rfl)
  exact hk b this.1 this.2
 ·obtain ⟨u,h1,h2,h3⟩:=hents o
  exact ⟨u,h1,h2.keep fun k hu=>hk k (h3 k hu).2.2.2 (h3 k hu).2.2.1⟩
theorem Ent.below {w w':World} {v:Value} {x:Option ByteArray} (h:Ent w v x) (hb:Below w.heap.size w w'):Ent w' v x:=by
 cases x with
 | none=>exact h
 | some n =>
  obtain ⟨k,c,rfl,hs⟩:=h
  exact ⟨k,c,rfl,hs.below hb⟩
theorem look_mem (ps:List (UInt8 × ByteArray)) (hnd:(ps.map (·.1)).Nodup) (p:UInt8 × ByteArray) (hp:p ∈ ps):look ps p.1 = some p.2:=by
 induction ps with
 | nil=>cases hp
 | cons q ps ih =>
  simp only [List.map_cons,List.nodup_cons] at hnd
  rw [look_cons]
  rcases List.mem_cons.1 hp with rfl | h
  ·rw [if_pos rfl]
  ·rw [if_neg ?_,ih hnd.2 h]
   intro e
   exact hnd.1 (e ▸ List.mem_map_of_mem h)
theorem look_some (ps:List (UInt8 × ByteArray)) (b:UInt8) (n:ByteArray) (h:look ps b = some n):∃ p ∈ ps,p.1 = b ∧ p.2 = n:=by
 unfold look at h
 cases hf:ps.find? (fun q=>q.1 == b) with
 | none=>rw [hf] at h;cases h
 | some q =>
  rw [hf] at h
  injection h with h
  have h2:=List.find?_some hf
  simp at h2
  exact ⟨q,List.mem_of_find?_eq_some hf,h2,h⟩
theorem count_le (l:List UInt8) (c:UInt8):Lib.countByte l c ≤ l.length:=List.count_le_length
theorem cgain_bd (l:List UInt8) (p:UInt8 × ByteArray) (h1:1 ≤ p.2.size):0 ≤ cgain l p:=by
 unfold cgain
 exact Int.mul_nonneg (by omega) (by omega)
theorem cgains_nonneg (qs:List (UInt8 × ByteArray)) (l:List UInt8) (h1:∀ p ∈ qs,1 ≤ p.2.size):0 ≤ cgains qs l:=by
 induction qs with
 | nil=>exact Int.le_refl _
 | cons p qs ih =>
  have e:cgains (p :: qs) l = cgain l p + cgains qs l:=by simp [cgains]
  have:=cgain_bd l p (h1 p (by simp))
  have:=ih fun q hq=>h1 q (by simp [hq])
  omega
theorem cgains_take (qs:List (UInt8 × ByteArray)) (l:List UInt8) (h1:∀ p ∈ qs,1 ≤ p.2.size) (k:Nat):cgains (qs.take k) l ≤ cgains qs l:=by
 have e:cgains qs l = cgains (qs.take k) l + cgains (qs.drop k) l:=by
  unfold cgains
  rw [← List.sum_append,← List.map_append,List.take_append_drop]
 have:=cgains_nonneg (qs.drop k) l fun p hp=>h1 p (List.mem_of_mem_drop hp)
 omega
theorem gain_bd (ps:List (UInt8 × ByteArray)) (h1:∀ p ∈ ps,1 ≤ p.2.size ∧ p.2.size ≤ 8) (b:UInt8):0 ≤ gain ps b ∧ gain ps b ≤ 7:=by
 cases h:look ps b with
 | none=>rw [gain_none ps b h];omega
 | some n =>
  obtain ⟨p,hp,_,rfl⟩:=look_some ps b n h
  have:=h1 p hp
  simp only [gain,form,h,size_data]
  omega
theorem gains_bd (ps:List (UInt8 × ByteArray)) (h1:∀ p ∈ ps,1 ≤ p.2.size ∧ p.2.size ≤ 8) (l:List UInt8):0 ≤ gains ps l ∧ gains ps l ≤ 7 * l.length:=by
 induction l with
 | nil=>simp [gains]
 | cons b l ih =>
  have e:gains ps (b :: l) = gain ps b + gains ps l:=by simp [gains]
  have:=gain_bd ps h1 b
  rw [e,List.length_cons]
  omega
theorem gains_take (ps:List (UInt8 × ByteArray)) (h1:∀ p ∈ ps,1 ≤ p.2.size ∧ p.2.size ≤ 8) (l:List UInt8) (k:Nat):gains ps (l.take k) ≤ gains ps l:=by
 have e:gains ps l = gains ps (l.take k) + gains ps (l.drop k):=by
  unfold gains
  rw [← List.sum_append,← List.map_append,List.take_append_drop]
 have:=(gains_bd ps h1 (l.drop k)).1
 omega
def bufL (N:Nat) (l:List UInt8):List Value:=u8s l ++ List.replicate (N - l.length) (.int .u8 0)
theorem bufL_length (N:Nat) (l:List UInt8) (h:l.length ≤ N):(bufL N l).length = N:=by simp [bufL,u8s];omega
theorem bufL_set (N:Nat) (l:List UInt8) (o:UInt8) (h:l.length < N):(bufL N l).toArray.setIfInBounds l.length (.int .u8 o.toNat) = (bufL N (l ++ [o])).toArray:=by
 obtain ⟨m,hm⟩:∃ m,N - l.length = m + 1:=⟨N - l.length - 1,by omega⟩
 have hl:l.length = (u8s l).length:=by simp [u8s]
 have hm2:N - (l ++ [o]).length = m:=by rw [List.length_append,List.length_singleton];omega
 unfold bufL
 rw [hm,hm2,List.replicate_succ,hl,setIfInBounds_pre]
 simp [u8s]
theorem bufL_splice (N:Nat) (l m:List UInt8) (h:l.length + m.length ≤ N):splice (bufL N l) l.length (u8s m) = bufL N (l ++ m):=by
 have hl:l.length = (u8s l).length:=by simp [u8s]
 have hm:(u8s m).length = m.length:=by simp [u8s]
 unfold splice bufL
 rw [hm,List.take_left' hl.symm,List.drop_append,List.drop_of_length_le (by omega),List.nil_append,List.drop_replicate,hl,← List.append_assoc]
 have e:(N - (u8s l).length - ((u8s l).length + m.length - (u8s l).length)) = N - (l ++ m).length:=by rw [List.length_append];omega
 rw [e]
 simp [u8s]
theorem bufL_full (l:List UInt8):bufL l.length l = u8s l:=by simp [bufL]
theorem u8s_bytesV (l:List UInt8):u8s l = bytesV ⟨l.toArray⟩:=by simp [u8s,bytesV]
theorem bytesV_u8s (n:ByteArray):bytesV n = u8s n.data.toList:=rfl
theorem made_zero (z:Value) (n:Nat):(madeCells #[z] n).toList = List.replicate n z:=by
 apply List.ext_getElem
 ·simp [madeCells]
 ·intro i h1 h2
  simp [madeCells,Nat.mod_one]
theorem own_full {w:World} {base:Nat} {e:TypeId} {g n:Nat} {xs:List Value} (h:w.ownsRow base e 1 (.slice (some ⟨g,0,none⟩) n n) n xs):w.heap[g]? = some (.cells xs.toArray e (0,0)):=by
 obtain ⟨h1,h2⟩:=h
 rcases h2 with ⟨h3,_⟩ | ⟨g',cap,cur,hv,_,hh,_,_,hsz,ht⟩
 ·cases h3
 ·injection hv with e1 e2 e3
  injection e1 with e1
  injection e1 with e1
  subst e1
  subst e3
  rw [hh,← ht,List.take_of_length_le (by rw [Array.length_toList,hsz];exact Nat.le_refl _)]
theorem heap_sl {w:World} {g:Nat} {xs:List Value} {e:TypeId} {fz:Nat × Nat} (h:w.heap[g]? = some (.cells xs.toArray e fz)):Sl w (some ⟨g,0,none⟩) xs.length xs :=
 ⟨rfl,fun i hi=>⟨g,0,rfl,heap_lt h,by rw [cell_heap h,Nat.zero_add];simp [hi]⟩⟩
end Go.Proofs.YtgjokdngbocehaaGreatDoor
namespace Go.Proofs.YtgjokdngbocehaaGreatDoor
open Go.RowKit
theorem rev_at (ps:List (UInt8 × ByteArray)) (k:Nat) (h:k < ps.reverse.length):ps.reverse.take (k + 1) = ps.reverse.take k ++ [ps.reverse[k]]:=by
 rw [List.take_succ_eq_append_getElem h]
theorem info_u8:(Tryz.prog.info? 5).map (fun i=>(i.zero,i.size,i.bytes)) = some (some (.int .u8 0),1,1):=by kernel_rfl
set_option maxRecDepth 100000 in
set_option maxHeartbeats 1600000 in
theorem replace_any (ps:List (UInt8 × ByteArray)) (G:Nat) (s:ByteArray) (w:World) (hT:TabOK w G ps)
  (hsm:ps.length ≤ 256) (hnd:(ps.map (·.1)).Nodup) (hsz:∀ p ∈ ps,1 ≤ p.2.size ∧ p.2.size ≤ 8) (hs:s.size ≤ 1099511627776) :
  Calls Tryz.prog 223 #[.pointer (some ⟨G,0,none⟩),.string s] w fun e w'=>e = .returned (.string (replS ps s)) ∧ Below w.heap.size w w':=by
 obtain ⟨C,a,n,c,hG,h256,hsl,hents⟩:=hT.tab
 have hn:n = ps.length:=by have:=hsl.len;simpa using this
 have c256:w.cell? ⟨G,256,none⟩ = some (.slice a n c):=(cell_heap hG).trans h256
 obtain ⟨l,hl⟩:∃ l,s.data.toList = l:=⟨_,rfl⟩
 have hll:l.length = s.size:=by rw [← hl,size_data]
 have hgb:=gains_bd ps hsz l
 have hcg:=cgains_eq ps hnd l
 have HN:=Lib.hid hn
 have HL:=Lib.hid hl
 have HLL:=Lib.hid hll
 have HCG:=Lib.hid hcg
 have HGB:=Lib.hid hgb
 have HE:=Lib.hid hents
 have HSL:=Lib.hid hsl
 have HG:=Lib.hid hG
 have hnb:n ≤ 256:=by omega
 clear hn hl hll hcg hents hsl hgb
 go_enter Tryz.func223,Tryz.ntmps223
 go_upto_if 26 with (fail)
 go_cut [5,6] (fun ns an wx=>∃ N:Int,ns = .int .i64 N ∧ an = .bool (hit ps l) ∧ Below w.heap.size w wx ∧ Hid (N = (replL ps l).length) ∧ 0 ≤ N ∧ N ≤ 8 * (s.size:Int))
 case first =>
  by_cases hroad:n * 8 ≤ s.size
  ·have hd:decide ((n:Int) * 8 ≤ s.size) = true:=by simp;omega
   simp only [hd]
   go_wp2_with fail
   go_loopw [5,6,32] (fun ns an ix wr=>∃ (k:Nat) (N:Int) (b:Bool),ns = .int .i64 N ∧ an = .bool b ∧ ix = .int .i64 k ∧ k ≤ n ∧ (∃ m,wr = w.drewN m) ∧ 0 ≤ N ∧ N ≤ 8 * (s.size:Int) ∧ Hid (N = s.size + cgains (ps.reverse.take k) l) ∧ Hid (b = cany (ps.reverse.take k) l)) (fun _ _ ix _=>n - (intOf ix).toNat)
   case atStart=>exact ⟨0,s.size,false,rfl,rfl,rfl,Nat.zero_le _,⟨0,rfl⟩,by omega,by omega,by show _ = _;simp [cgains],by show _ = _;simp [cany]⟩
   case round =>
    obtain ⟨k,N,b,rfl,rfl,rfl,hk,⟨m,rfl⟩,hN0,hN8,hN,hb⟩:=hrel
    by_cases hkn:k < n
    ·have hkr:k < ps.reverse.length:=by rw [List.length_reverse,← HN.out];exact hkn
     obtain ⟨ba,oa,rfl,_,e1⟩:=HSL.out.cell k (by simpa using hkr)
     rw [List.getElem_map] at e1
     have hmem:ps.reverse[k] ∈ ps:=List.mem_reverse.1 (List.getElem_mem hkr)
     have hsn:=rev_at ps k hkr
     generalize ps.reverse[k] = p at e1 hmem hsn
     obtain ⟨o,nn⟩:=p
     simp only at e1
     have hlook:=look_mem ps hnd _ hmem
     have hsz1:=hsz _ hmem
     simp only at hlook hsz1
     obtain ⟨u,hu,he⟩:=HE.out o
     rw [hlook] at he
     obtain ⟨h,cc,rfl,hsn2⟩:=he
     have g1:w.cell? ⟨G,o.toNat,none⟩ = some (.slice (some ⟨h,0,none⟩) nn.size cc):=(cell_heap HG.out).trans hu
     have ho:o.toNat < 256:=o.toNat_lt
     have hidx:∀ W,(Instr.index 9 (.string (str1 o)) (.int .i64 0)).run Tryz.prog W = .ok (.int .u8 o.toNat) W:=fun W=>by kernel_rfl
     have hcg1:cgain l (o,nn) = (Lib.countByte l o:Int) * ((nn.size:Int) - 1):=rfl
     have hN':N + cgain l (o,nn) = s.size + cgains (ps.reverse.take (k + 1)) l:=by rw [hN.out,hsn,cgains_snoc];omega
     have hb':(b || Lib.countByte l o != 0) = cany (ps.reverse.take (k + 1)) l:=by rw [hb.out,hsn,cany_snoc]
     have hNb:N + cgain l (o,nn) ≤ 8 * (s.size:Int) ∧ 0 ≤ cgain l (o,nn):=by
      have h1:=cgains_take ps.reverse l (fun p hp=>(hsz p (List.mem_reverse.1 hp)).1) (k + 1)
      rw [cgains_rev,HCG.out] at h1
      have h2:=HGB.out.2
      have h3:=HLL.out
      have h4:=cgain_bd l (o,nn) hsz1.1
      omega
     have hcl:=count_le l o
     rw [HLL.out] at hcl
     have HN':=Lib.hid hN'
     have HB':=Lib.hid hb'
     have HC1:=Lib.hid hcg1
     have hlc:Lib.countByte s.data.toList o = Lib.countByte l o:=by rw [HL.out]
     have HLC:=Lib.hid hlc
     clear hN' hb' hcg1 hlook hu hsn2 hmem hsn hlc
     generalize Lib.countByte l o = q at *
     generalize cgain l (o,nn) = P at *
     generalize o.toNat = on at *
     by_cases hq:q = 0
     ·subst hq
      go_wp2_with (go_at_call 225;refine (Tryz.strings_Count_one s o _).mono ?_;rw [HLC.out];rintro e w1 ⟨rfl,rfl⟩)
      go_roundw
      case rel=>exact ⟨k + 1,N,b,rfl,rfl,by go_num,by omega,⟨_,rfl⟩,hN0,hN8,by have h2:P = 0:=(by have:=HC1.out;simpa using this);have h1:=HN'.out;rw [h2,Int.add_zero] at h1;exact h1,by have h1:=HB'.out;rw [show ((0:Nat) != 0) = false from rfl,Bool.or_false] at h1;exact h1⟩
      case measure=>simp [intOf];omega
     ·have hqb:((q:Int) != 0) = true:=by simp;omega
      have hw1:IntKind.i64.wrap ((nn.size:Int) - 1) = (nn.size:Int) - 1:=IntWalk.i64_in _ (by omega)
      have hw2:IntKind.i64.wrap ((q:Int) * ((nn.size:Int) - 1)) = P:=by rw [← HC1.out];exact IntWalk.i64_in _ (by omega)
      have hw3:IntKind.i64.wrap (N + P) = N + P:=IntWalk.i64_in _ (by omega)
      go_wp2_with (first | (go_at_call 225;refine (Tryz.strings_Count_one s o _).mono ?_;rw [HLC.out];rintro e w1 ⟨rfl,rfl⟩) | go_quiet (fail))
      go_roundw
      case rel=>exact ⟨k + 1,N + P,true,rfl,rfl,by go_num,by omega,⟨_,rfl⟩,by omega,by omega,HN'.out,by have h1:=HB'.out;rw [show (q != 0) = true from bne_iff_ne.2 hq,Bool.or_true] at h1;exact h1⟩
      case measure=>simp [intOf];omega
    ·have hkn':k = n:=by omega
     have hfull:ps.reverse.take k = ps.reverse:=List.take_of_length_le (by rw [List.length_reverse,← HN.out];omega)
     have h1:=hN.out
     have h2:=hb.out
     rw [hfull,cgains_rev,HCG.out,← HLL.out,← replL_length] at h1
     rw [hfull,cany_rev,cany_eq] at h2
     have H1:=Lib.hid h1
     clear h1 hN hb hfull
     subst h2
     go_wp2_with fail
     go_meet
     exact ⟨N,rfl,rfl,Below.drewN (Below.refl _ _) _,H1,hN0,hN8⟩
  ·have hd:decide ((n:Int) * 8 ≤ s.size) = false:=by simp;omega
   simp only [hd]
   go_wp2_with fail
   go_loop [5,6,10,11] (fun ns an ix _=>∃ (k:Nat) (N:Int) (b:Bool),ns = .int .i64 N ∧ an = .bool b ∧ ix = .int .i64 k ∧ k ≤ s.size ∧ 0 ≤ N ∧ N ≤ 8 * (s.size:Int) ∧ Hid (N = s.size + gains ps (l.take k)) ∧ Hid (b = hit ps (l.take k))) (fun _ _ ix _=>s.size - (intOf ix).toNat)
   case atStart=>exact ⟨0,s.size,false,rfl,rfl,rfl,Nat.zero_le _,by omega,by omega,by show _ = _;simp [gains],by show _ = _;simp [hit]⟩
   case round =>
    obtain ⟨k,N,b,rfl,rfl,rfl,hk,hN0,hN8,hN,hb⟩:=hrel
    by_cases hkn:k < s.size
    ·have hkl:k < l.length:=by rw [HLL.out];exact hkn
     have ho':s.data.toList[k]? = some l[k]:=by rw [HL.out];exact List.getElem?_eq_getElem hkl
     have hsn:l.take (k + 1) = l.take k ++ [l[k]]:=by rw [List.take_succ_eq_append_getElem hkl]
     generalize l[k] = o at ho' hsn
     have hidx:=run_index_str (P:=Tryz.prog) 9 Tryz.underlying9 s k o ho'
     obtain ⟨u,hu,he⟩:=HE.out o
     have g1:w.cell? ⟨G,o.toNat,none⟩ = some u:=(cell_heap HG.out).trans hu
     have ho:o.toNat < 256:=o.toNat_lt
     have hN':N + gain ps o = s.size + gains ps (l.take (k + 1)):=by rw [hN.out,hsn,gains_snoc];omega
     have hb':(b || (look ps o).isSome) = hit ps (l.take (k + 1)):=by rw [hb.out,hsn,hit_snoc]
     have hNb:N + gain ps o ≤ 8 * (s.size:Int) ∧ 0 ≤ gain ps o:=by
      have h1:=gains_take ps hsz l (k + 1)
      have h2:=HGB.out.2
      have h3:=HLL.out
      have h4:=gain_bd ps hsz o
      omega
     have HN':=Lib.hid hN'
     have HB':=Lib.hid hb'
     clear hN' hb' hu ho' hsn
     cases hlook:look ps o with
     | none =>
      rw [hlook] at he
      have he0:u = .slice none 0 0:=he
      subst he0
      have hgain:gain ps o = 0:=gain_none ps o hlook
      have HGN:=Lib.hid hgain
      have HLK:=Lib.hid hlook
      clear he hgain hlook
      generalize o.toNat = on at *
      go_wp2_with fail
      go_round
      case rel=>exact ⟨k + 1,N,b,rfl,rfl,by go_num,by omega,by omega,by omega,by have h1:=HN'.out;rw [HGN.out,Int.add_zero] at h1;exact h1,by have h1:=HB'.out;rw [HLK.out,Option.isSome_none,Bool.or_false] at h1;exact h1⟩
      case measure=>simp [intOf];omega
     | some nn =>
      rw [hlook] at he
      obtain ⟨h,cc,rfl,_⟩:=he
      have hgain:gain ps o = (nn.size:Int) - 1:=by simp only [gain,form,hlook,size_data]
      have HGN:=Lib.hid hgain
      have HLK:=Lib.hid hlook
      have hnz:(nn.size:Int) - 1 = gain ps o:=hgain.symm
      have hn8:(nn.size:Int) ≤ 8:=by have:=(gain_bd ps hsz o).2;omega
      have HNZ:=Lib.hid hnz
      clear hgain hlook hnz
      generalize gain ps o = P at *
      generalize o.toNat = on at *
      go_wp2_with fail
      go_round
      case rel=>exact ⟨k + 1,N + P,true,by rw [← HNZ.out],rfl,by go_num,by omega,by omega,by omega,HN'.out,by have h1:=HB'.out;rw [HLK.out,Option.isSome_some,Bool.or_true] at h1;exact h1⟩
      case measure=>simp [intOf];omega
    ·have hkn':k = s.size:=by omega
     have hfull:l.take k = l:=List.take_of_length_le (by rw [HLL.out];omega)
     have h1:=hN.out
     have h2:=hb.out
     rw [hfull,← HLL.out,← replL_length] at h1
     rw [hfull] at h2
     have H1:=Lib.hid h1
     clear h1 hN hb hfull
     subst h2
     go_wp2_with fail
     go_meet
     exact ⟨N,rfl,rfl,Below.refl _ _,H1,hN0,hN8⟩
 case rest =>
  obtain ⟨N,rfl,rfl,hbw,hNl,hN0,hN8⟩:=hcut
  cases hh:hit ps l with
  | false =>
   have hrs:replS ps s = s:=by
    unfold replS
    rw [HL.out,no_hit ps l hh,← HL.out]
   go_wp2_with fail
   go_ret
   exact ⟨by rw [hrs];rfl,hbw⟩
  | true =>
   obtain ⟨NN,hNN⟩:∃ NN:Nat,NN = (replL ps l).length:=⟨_,rfl⟩
   have hNN2:N = (NN:Int):=by rw [hNN];exact hNl.out
   subst hNN2
   obtain ⟨i0,hi0,hiz,his,hib⟩:=info_parts info_u8
   have HNN:=Lib.hid hNN
   have HH:=Lib.hid hh
   have HE2:Hid (∀ o:UInt8,∃ u,C[o.toNat]? = some u ∧ Ent wc u (look ps o)):=fun o=>let ⟨u,h1,h2⟩:=HE.out o;⟨u,h1,h2.below hbw⟩
   have HG2:Hid (wc.heap[G]? = some (.cells C 255 (0,0))):=(hbw.block G (heap_lt HG.out)).trans HG.out
   have HBW:=Lib.hid hbw
   clear hNN hNl hh hbw
   go_wp2_with (at_make;go_loud (refine wpList_make_full _ rfl _ _ 136 rfl wc.heap.size 5 i0 (.int .u8 0) 1 Tryz.underlying136 hi0 hiz his .i64 .i64 _ _ NN (by rfl) (by rfl) rfl rfl (by rw [hib];omega) (by unfold maxLen;omega) (Nat.le_refl _) (fun w1 hown1 hgrow1=>?_)))
   have hb1:Below wc.heap.size wc w1:=(Below.refl _ _).grown hgrow1 (Nat.le_refl _) (by intro k hk;cases hk)
   have hown2:=own_full hown1
   have hgw:w.heap.size ≤ wc.heap.size:=HBW.out.size
   have hst:Hid (w1.heap[wc.heap.size]? = some (.cells (bufL NN []).toArray 5 (0,0))):=by
    show _ = _
    rw [hown2,show Value.cells (.int .u8 0) = #[.int .u8 0] from rfl,made_zero]
    simp [bufL,u8s]
   have hGl:G < wc.heap.size:=heap_lt HG2.out
   clear hown1 hown2 hgrow1
   generalize hgB:wc.heap.size = gB at *
   go_loopw [13,14,15] (fun jx ix _ wr=>∃ (k j:Nat),jx = .int .i64 j ∧ ix = .int .i64 k ∧ k ≤ s.size ∧ j ≤ NN ∧ Below gB wc wr ∧ Hid (wr.heap[gB]? = some (.cells (bufL NN (replL ps (l.take k))).toArray 5 (0,0))) ∧ Hid (j = (replL ps (l.take k)).length)) (fun _ ix _ _=>s.size - (intOf ix).toNat)
   case atStart=>exact ⟨0,0,rfl,rfl,Nat.zero_le _,Nat.zero_le _,hb1,hst,rfl⟩
   case round =>
    obtain ⟨k,j,rfl,rfl,hk,hj,hbr,hbuf,hjl⟩:=hrel
    by_cases hkn:k < s.size
    ·have hkl:k < l.length:=by rw [HLL.out];exact hkn
     have ho':s.data.toList[k]? = some l[k]:=by rw [HL.out];exact List.getElem?_eq_getElem hkl
     have hsn:l.take (k + 1) = l.take k ++ [l[k]]:=by rw [List.take_succ_eq_append_getElem hkl]
     have hpre:(replL ps (l.take (k + 1))).length ≤ NN:=by
      have e:replL ps l = replL ps (l.take (k + 1)) ++ replL ps (l.drop (k + 1)):=by
       unfold replL;rw [← List.flatMap_append,List.take_append_drop]
      rw [HNN.out,e,List.length_append]
      omega
     generalize l[k] = o at ho' hsn
     have hidx:=run_index_str (P:=Tryz.prog) 9 Tryz.underlying9 s k o ho'
     obtain ⟨u,hu,he⟩:=HE2.out o
     have hGr:wr.heap[G]? = some (.cells C 255 (0,0)):=(hbr.block G hGl).trans HG2.out
     have g1:wr.cell? ⟨G,o.toNat,none⟩ = some u:=(cell_heap hGr).trans hu
     have ho:o.toNat < 256:=o.toNat_lt
     rw [hsn,replL_snoc,List.length_append] at hpre
     have HS:=Lib.hid hsn
     have HBF:=Lib.hid hbuf.out
     have HJ:=Lib.hid hjl.out
     have HBR:=Lib.hid hbr
     clear hu ho' hsn hGr hbr hbuf hjl
     cases hlook:look ps o with
     | none =>
      rw [hlook] at he
      have he0:u = .slice none 0 0:=he
      subst he0
      have hform:form ps o = [o]:=by simp [form,hlook]
      rw [hform,← HJ.out] at hpre
      simp only [List.length_singleton] at hpre
      have hcell:wr.cell? ⟨gB,j,none⟩ = some ((bufL NN (replL ps (l.take k)))[j]'(by rw [bufL_length _ _ (by rw [← HJ.out];exact hj)];omega)):=by
       rw [cell_heap HBF.out]
       simp
      have hfrz:wr.frozen? ⟨gB,j,none⟩ = false:=frozen_heap HBF.out
      have HF:=Lib.hid hform
      clear he hform hlook
      generalize (bufL NN (replL ps (l.take k)))[j]'_ = old at hcell
      generalize hon:o.toNat = on at *
      have HON:=Lib.hid hon
      clear hon
      go_wp2_with fail
      go_roundw
      case rel =>
       refine ⟨k + 1,j + 1,by go_num,by go_num,by omega,by omega,HBR.out.setCell (p:=⟨gB,j,none⟩) (Nat.le_refl _) _,?_,?_⟩
       ·show _ = _
        have h1:=setCell_heap (i:=j) HBF.out (.int .u8 on)
        rw [h1,HS.out,replL_snoc,HF.out,HJ.out,← HON.out,bufL_set _ _ _ (by rw [← HJ.out];omega)]
       ·show _ = _
        rw [HS.out,replL_snoc,HF.out,List.length_append,← HJ.out]
        rfl
      case measure=>simp [intOf];omega
     | some nn =>
      rw [hlook] at he
      obtain ⟨h,cc,rfl,hsn⟩:=he
      have hform:form ps o = nn.data.toList:=by simp [form,hlook]
      rw [hform,← HJ.out,size_data] at hpre
      obtain ⟨p,hp,_,hpn⟩:=look_some ps o nn hlook
      have hsz1:=hsz p hp
      rw [hpn] at hsz1
      have HF:=Lib.hid hform
      have HSN:Hid (Sl wr (some ⟨h,0,none⟩) nn.size (bytesV nn)):=by
       refine hsn.keep fun b o e=>?_
       obtain ⟨b',o',e',hb',_⟩:=hsn.cell 0 (by rw [bytesV_length];omega)
       rw [e] at e'
       injection e' with e'
       injection e' with e1 e2
       rw [e1]
       exact HBR.out.block b' (by omega)
      clear hform hlook hp hpn hsn
      generalize hon:o.toNat = on at *
      have HON:=Lib.hid hon
      clear hon
      have hjn:j < NN:=by omega
      have hsz1':(Tryz.prog.info? 5).map (·.size) = some 1:=by rw [hi0];simp [his]
      have hcellsn:∀ (jj:Nat) (v:Value),(bytesV nn)[jj]? = some v → wr.cell? ((⟨h,0,none⟩:Addr).add jj) = some v:=by
       intro jj v hv
       obtain ⟨hjj,hvv⟩:=List.getElem?_eq_some_iff.1 hv
       obtain ⟨b',o',e',_,hc'⟩:=HSN.out.cell jj hjj
       injection e' with e'
       injection e' with e1 e2
       subst e1
       subst e2
       rw [show ((⟨h,0,none⟩:Addr).add jj) = ⟨h,0 + jj,none⟩ from Addr.add_mid h 0 jj,hc',hvv]
      have h1c:∀ v ∈ bytesV nn,v.oneCell' = true:=by intro v hv;simp only [bytesV,List.mem_map] at hv;obtain ⟨b,_,rfl⟩:=hv;rfl
      go_upto_region 28 with (fail)
      have hws:IntKind.i64.wrap ((j:Int) + nn.size) = (j:Int) + nn.size:=IntWalk.i64_in _ (by omega)
      have hj0:(0:Int) ≤ (j:Int):=by omega
      have hjN:(j:Int) ≤ (NN:Int):=by omega
      have hne:¬ NN = j:=by omega
      have hon0:(0:Int) ≤ (on:Int):=by omega
      have hon1:(on:Int) < 256:=by omega
      go_region_law ((refine step_copy_splice rfl (.tmp 105) (.tmp 111) 136 136 rfl 5 Tryz.underlying136 hsz1' (some ⟨gB,j,none⟩) (some ⟨h,0,none⟩) (NN - j) (NN - j) nn.size cc (by simp [Act.eval]) (by simp [Act.eval]) gB j (bufL NN (replL ps (l.take k))) 5 HBF.out (bytesV nn) (by rw [bytesV_length];exact (Nat.min_eq_left (by omega)).symm) (fun _=>⟨rfl,⟨h,0,none⟩,rfl,hcellsn⟩) (by rw [bytesV_length,bufL_length _ _ (by rw [← HJ.out];exact hj)];omega) h1c gB wc HBR.out.drew (Nat.le_refl _) (fun w5 h5 b5=>?_)))
      have hln:(bytesV nn).length = nn.size:=bytesV_length nn
      have H5:=h5
      clear h5 hcellsn h1c
      go_wp2_with fail
      go_roundw
      case rel =>
       refine ⟨k + 1,j + nn.size,by go_num,by go_num,by omega,by omega,b5,?_,?_⟩
       ·show _ = _
        rw [H5.out,HS.out,replL_snoc,HF.out,bytesV_u8s]
        have e:=bufL_splice NN (replL ps (l.take k)) nn.data.toList (by rw [← HJ.out,size_data];omega)
        rw [← HJ.out] at e
        rw [e]
       ·show _ = _
        rw [HS.out,replL_snoc,HF.out,List.length_append,← HJ.out,size_data]
      case measure=>simp [intOf];omega
    ·have hkn':k = s.size:=by omega
     have hfull:l.take k = l:=List.take_of_length_le (by rw [HLL.out];omega)
     have h1:=hbuf.out
     rw [hfull,HNN.out,bufL_full,u8s_bytesV] at h1
     have h2:=heap_sl h1
     rw [← u8s_bytesV,show (u8s (replL ps l)).length = (replL ps l).length by simp [u8s],← HNN.out,u8s_bytesV] at h2
     have hcv:=run_bytes_str (P:=Tryz.prog) h2 136 9 5 Tryz.underlying136 Tryz.underlying5 Tryz.underlying9 NN
     have hrs:replS ps s = ⟨(replL ps l).toArray⟩:=by unfold replS;rw [HL.out]
     have HRS:=Lib.hid hrs
     clear h1 h2 hrs hfull hbuf hjl
     generalize (⟨(replL ps l).toArray⟩:ByteArray) = rs at hcv HRS
     go_wp2_with fail
     go_ret
     refine ⟨by rw [HRS.out];rfl,HBW.out.trans (hbr.mono ?_)⟩
     exact hgw
end Go.Proofs.YtgjokdngbocehaaGreatDoor
