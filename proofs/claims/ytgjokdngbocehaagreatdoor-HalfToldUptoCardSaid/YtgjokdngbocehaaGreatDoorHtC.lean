/-
  (*strings.byteStringReplacer).Replace over a table of pairs.
-/
import Derived.Test.YtgjokdngbocehaaGreatDoorShelf
import Derived.Deep.DeepCutAuto
import Derived.Deep.RegionLaw
import Derived.Lib.FrozenHead
import Derived.Lib.UnsafeStr
import Derived.Test.YtgjokdngbocehaaGreatDoorHtA
import Derived.Test.YtgjokdngbocehaaGreatDoorHtB
namespace Go.Proofs.YtgjokdngbocehaaGreatDoor
open Go.RowKit
theorem rev_at (ps:List (UInt8 × ByteArray)) (k:Nat) (h:k < ps.reverse.length):ps.reverse.take (k + 1) = ps.reverse.take k ++ [ps.reverse[k]]:=by
 rw [List.take_succ_eq_append_getElem h]
theorem info_u8:(Tryz.prog.info? 5).map (fun i=>(i.zero,i.size,i.bytes)) = some (some (.int .u8 0),1,1):=by kernel_rfl
set_option maxRecDepth 100000 in
set_option maxHeartbeats 1600000 in
theorem replace_any (ps:List (UInt8 × ByteArray)) (G:Nat) (s:ByteArray) (w:World) (hT:TabOK w G ps)
  (hsm:ps.length ≤ 256) (hnd:(ps.map (·.1)).Nodup) (hsz:∀ p ∈ ps,1 ≤ p.2.size ∧ p.2.size ≤ 8) (hs:s.size ≤ 1099511627776) :
  Calls Tryz.prog 223 #[.pointer (some ⟨G,0,none⟩),.string s] w fun e w'=>e = .returned (.string (replS ps s)) ∧ Below w.heap.size w w':=by
 obtain ⟨C,a,n,c,hG,h256,hsl,hents⟩:=hT.tab
 have hn:n = ps.length:=by have:=hsl.len;simpa using this
 have c256:w.cell? ⟨G,256,none⟩ = some (.slice a n c):=(cell_heap hG).trans h256
 obtain ⟨l,hl⟩:∃ l,s.data.toList = l:=⟨_,rfl⟩
 have hll:l.length = s.size:=by rw [← hl,size_data]
 have hgb:=gains_bd ps hsz l
 have hcg:=cgains_eq ps hnd l
 have HN:=Lib.hid hn
 have HL:=Lib.hid hl
 have HLL:=Lib.hid hll
 have HCG:=Lib.hid hcg
 have HGB:=Lib.hid hgb
 have HE:=Lib.hid hents
 have HSL:=Lib.hid hsl
 have HG:=Lib.hid hG
 have hnb:n ≤ 256:=by omega
 clear hn hl hll hcg hents hsl hgb
 go_enter Tryz.func223,Tryz.ntmps223
 go_upto_if 26 with (fail)
 go_cut [5,6] (fun ns an wx=>∃ N:Int,ns = .int .i64 N ∧ an = .bool (hit ps l) ∧ Below w.heap.size w wx ∧ Hid (N = (replL ps l).length) ∧ 0 ≤ N ∧ N ≤ 8 * (s.size:Int))
 case first =>
  by_cases hroad:n * 8 ≤ s.size
  ·have hd:decide ((n:Int) * 8 ≤ s.size) = true:=by simp;omega
   simp only [hd]
   go_wp2_with fail
   go_loopw [5,6,32] (fun ns an ix wr=>∃ (k:Nat) (N:Int) (b:Bool),ns = .int .i64 N ∧ an = .bool b ∧ ix = .int .i64 k ∧ k ≤ n ∧ (∃ m,wr = w.drewN m) ∧ 0 ≤ N ∧ N ≤ 8 * (s.size:Int) ∧ Hid (N = s.size + cgains (ps.reverse.take k) l) ∧ Hid (b = cany (ps.reverse.take k) l)) (fun _ _ ix _=>n - (intOf ix).toNat)
   case atStart=>exact ⟨0,s.size,false,rfl,rfl,rfl,Nat.zero_le _,⟨0,rfl⟩,by omega,by omega,by show _ = _;simp [cgains],by show _ = _;simp [cany]⟩
   case round =>
    obtain ⟨k,N,b,rfl,rfl,rfl,hk,⟨m,rfl⟩,hN0,hN8,hN,hb⟩:=hrel
    by_cases hkn:k < n
    ·have hkr:k < ps.reverse.length:=by rw [List.length_reverse,← HN.out];exact hkn
     obtain ⟨ba,oa,rfl,_,e1⟩:=HSL.out.cell k (by simpa using hkr)
     rw [List.getElem_map] at e1
     have hmem:ps.reverse[k] ∈ ps:=List.mem_reverse.1 (List.getElem_mem hkr)
     have hsn:=rev_at ps k hkr
     generalize ps.reverse[k] = p at e1 hmem hsn
     obtain ⟨o,nn⟩:=p
     simp only at e1
     have hlook:=look_mem ps hnd _ hmem
     have hsz1:=hsz _ hmem
     simp only at hlook hsz1
     obtain ⟨u,hu,he⟩:=HE.out o
     rw [hlook] at he
     obtain ⟨h,cc,rfl,hsn2⟩:=he
     have g1:w.cell? ⟨G,o.toNat,none⟩ = some (.slice (some ⟨h,0,none⟩) nn.size cc):=(cell_heap HG.out).trans hu
     have ho:o.toNat < 256:=o.toNat_lt
     have hidx:∀ W,(Instr.index 9 (.string (str1 o)) (.int .i64 0)).run Tryz.prog W = .ok (.int .u8 o.toNat) W:=fun W=>by kernel_rfl
     have hcg1:cgain l (o,nn) = (Lib.countByte l o:Int) * ((nn.size:Int) - 1):=rfl
     have hN':N + cgain l (o,nn) = s.size + cgains (ps.reverse.take (k + 1)) l:=by rw [hN.out,hsn,cgains_snoc];omega
     have hb':(b || Lib.countByte l o != 0) = cany (ps.reverse.take (k + 1)) l:=by rw [hb.out,hsn,cany_snoc]
     have hNb:N + cgain l (o,nn) ≤ 8 * (s.size:Int) ∧ 0 ≤ cgain l (o,nn):=by
      have h1:=cgains_take ps.reverse l (fun p hp=>(hsz p (List.mem_reverse.1 hp)).1) (k + 1)
      rw [cgains_rev,HCG.out] at h1
      have h2:=HGB.out.2
      have h3:=HLL.out
      have h4:=cgain_bd l (o,nn) hsz1.1
      omega
     have hcl:=count_le l o
     rw [HLL.out] at hcl
     have HN':=Lib.hid hN'
     have HB':=Lib.hid hb'
     have HC1:=Lib.hid hcg1
     have hlc:Lib.countByte s.data.toList o = Lib.countByte l o:=by rw [HL.out]
     have HLC:=Lib.hid hlc
     clear hN' hb' hcg1 hlook hu hsn2 hmem hsn hlc
     generalize Lib.countByte l o = q at *
     generalize cgain l (o,nn) = P at *
     generalize o.toNat = on at *
     by_cases hq:q = 0
     ·subst hq
      go_wp2_with (go_at_call 225;refine (Tryz.strings_Count_one s o _).mono ?_;rw [HLC.out];rintro e w1 ⟨rfl,rfl⟩)
      go_roundw
      case rel=>exact ⟨k + 1,N,b,rfl,rfl,by go_num,by omega,⟨_,rfl⟩,hN0,hN8,by have h2:P = 0:=(by have:=HC1.out;simpa using this);have h1:=HN'.out;rw [h2,Int.add_zero] at h1;exact h1,by have h1:=HB'.out;rw [show ((0:Nat) != 0) = false from rfl,Bool.or_false] at h1;exact h1⟩
      case measure=>simp [intOf];omega
     ·have hqb:((q:Int) != 0) = true:=by simp;omega
      have hw1:IntKind.i64.wrap ((nn.size:Int) - 1) = (nn.size:Int) - 1:=IntWalk.i64_in _ (by omega)
      have hw2:IntKind.i64.wrap ((q:Int) * ((nn.size:Int) - 1)) = P:=by rw [← HC1.out];exact IntWalk.i64_in _ (by omega)
      have hw3:IntKind.i64.wrap (N + P) = N + P:=IntWalk.i64_in _ (by omega)
      go_wp2_with (first | (go_at_call 225;refine (Tryz.strings_Count_one s o _).mono ?_;rw [HLC.out];rintro e w1 ⟨rfl,rfl⟩) | go_quiet (fail))
      go_roundw
      case rel=>exact ⟨k + 1,N + P,true,rfl,rfl,by go_num,by omega,⟨_,rfl⟩,by omega,by omega,HN'.out,by have h1:=HB'.out;rw [show (q != 0) = true from bne_iff_ne.2 hq,Bool.or_true] at h1;exact h1⟩
      case measure=>simp [intOf];omega
    ·have hkn':k = n:=by omega
     have hfull:ps.reverse.take k = ps.reverse:=List.take_of_length_le (by rw [List.length_reverse,← HN.out];omega)
     have h1:=hN.out
     have h2:=hb.out
     rw [hfull,cgains_rev,HCG.out,← HLL.out,← replL_length] at h1
     rw [hfull,cany_rev,cany_eq] at h2
     have H1:=Lib.hid h1
     clear h1 hN hb hfull
     subst h2
     go_wp2_with fail
     go_meet
     exact ⟨N,rfl,rfl,Below.drewN (Below.refl _ _) _,H1,hN0,hN8⟩
  ·have hd:decide ((n:Int) * 8 ≤ s.size) = false:=by simp;omega
   simp only [hd]
   go_wp2_with fail
   go_loop [5,6,10,11] (fun ns an ix _=>∃ (k:Nat) (N:Int) (b:Bool),ns = .int .i64 N ∧ an = .bool b ∧ ix = .int .i64 k ∧ k ≤ s.size ∧ 0 ≤ N ∧ N ≤ 8 * (s.size:Int) ∧ Hid (N = s.size + gains ps (l.take k)) ∧ Hid (b = hit ps (l.take k))) (fun _ _ ix _=>s.size - (intOf ix).toNat)
   case atStart=>exact ⟨0,s.size,false,rfl,rfl,rfl,Nat.zero_le _,by omega,by omega,by show _ = _;simp [gains],by show _ = _;simp [hit]⟩
   case round =>
    obtain ⟨k,N,b,rfl,rfl,rfl,hk,hN0,hN8,hN,hb⟩:=hrel
    by_cases hkn:k < s.size
    ·have hkl:k < l.length:=by rw [HLL.out];exact hkn
     have ho':s.data.toList[k]? = some l[k]:=by rw [HL.out];exact List.getElem?_eq_getElem hkl
     have hsn:l.take (k + 1) = l.take k ++ [l[k]]:=by rw [List.take_succ_eq_append_getElem hkl]
     generalize l[k] = o at ho' hsn
     have hidx:=run_index_str (P:=Tryz.prog) 9 Tryz.underlying9 s k o ho'
     obtain ⟨u,hu,he⟩:=HE.out o
     have g1:w.cell? ⟨G,o.toNat,none⟩ = some u:=(cell_heap HG.out).trans hu
     have ho:o.toNat < 256:=o.toNat_lt
     have hN':N + gain ps o = s.size + gains ps (l.take (k + 1)):=by rw [hN.out,hsn,gains_snoc];omega
     have hb':(b || (look ps o).isSome) = hit ps (l.take (k + 1)):=by rw [hb.out,hsn,hit_snoc]
     have hNb:N + gain ps o ≤ 8 * (s.size:Int) ∧ 0 ≤ gain ps o:=by
      have h1:=gains_take ps hsz l (k + 1)
      have h2:=HGB.out.2
      have h3:=HLL.out
      have h4:=gain_bd ps hsz o
      omega
     have HN':=Lib.hid hN'
     have HB':=Lib.hid hb'
     clear hN' hb' hu ho' hsn
     cases hlook:look ps o with
     | none =>
      rw [hlook] at he
      have he0:u = .slice none 0 0:=he
      subst he0
      have hgain:gain ps o = 0:=gain_none ps o hlook
      have HGN:=Lib.hid hgain
      have HLK:=Lib.hid hlook
      clear he hgain hlook
      generalize o.toNat = on at *
      go_wp2_with fail
      go_round
      case rel=>exact ⟨k + 1,N,b,rfl,rfl,by go_num,by omega,by omega,by omega,by have h1:=HN'.out;rw [HGN.out,Int.add_zero] at h1;exact h1,by have h1:=HB'.out;rw [HLK.out,Option.isSome_none,Bool.or_false] at h1;exact h1⟩
      case measure=>simp [intOf];omega
     | some nn =>
      rw [hlook] at he
      obtain ⟨h,cc,rfl,_⟩:=he
      have hgain:gain ps o = (nn.size:Int) - 1:=by simp only [gain,form,hlook,size_data]
      have HGN:=Lib.hid hgain
      have HLK:=Lib.hid hlook
      have hnz:(nn.size:Int) - 1 = gain ps o:=hgain.symm
      have hn8:(nn.size:Int) ≤ 8:=by have:=(gain_bd ps hsz o).2;omega
      have HNZ:=Lib.hid hnz
      clear hgain hlook hnz
      generalize gain ps o = P at *
      generalize o.toNat = on at *
      go_wp2_with fail
      go_round
      case rel=>exact ⟨k + 1,N + P,true,by rw [← HNZ.out],rfl,by go_num,by omega,by omega,by omega,HN'.out,by have h1:=HB'.out;rw [HLK.out,Option.isSome_some,Bool.or_true] at h1;exact h1⟩
      case measure=>simp [intOf];omega
    ·have hkn':k = s.size:=by omega
     have hfull:l.take k = l:=List.take_of_length_le (by rw [HLL.out];omega)
     have h1:=hN.out
     have h2:=hb.out
     rw [hfull,← HLL.out,← replL_length] at h1
     rw [hfull] at h2
     have H1:=Lib.hid h1
     clear h1 hN hb hfull
     subst h2
     go_wp2_with fail
     go_meet
     exact ⟨N,rfl,rfl,Below.refl _ _,H1,hN0,hN8⟩
 case rest =>
  obtain ⟨N,rfl,rfl,hbw,hNl,hN0,hN8⟩:=hcut
  cases hh:hit ps l with
  | false =>
   have hrs:replS ps s = s:=by
    unfold replS
    rw [HL.out,no_hit ps l hh,← HL.out]
   go_wp2_with fail
   go_ret
   exact ⟨by rw [hrs];rfl,hbw⟩
  | true =>
   obtain ⟨NN,hNN⟩:∃ NN:Nat,NN = (replL ps l).length:=⟨_,rfl⟩
   have hNN2:N = (NN:Int):=by rw [hNN];exact hNl.out
   subst hNN2
   obtain ⟨i0,hi0,hiz,his,hib⟩:=info_parts info_u8
   have HNN:=Lib.hid hNN
   have HH:=Lib.hid hh
   have HE2:Hid (∀ o:UInt8,∃ u,C[o.toNat]? = some u ∧ Ent wc u (look ps o)):=fun o=>let ⟨u,h1,h2⟩:=HE.out o;⟨u,h1,h2.below hbw⟩
   have HG2:Hid (wc.heap[G]? = some (.cells C 255 (0,0))):=(hbw.block G (heap_lt HG.out)).trans HG.out
   have HBW:=Lib.hid hbw
   clear hNN hNl hh hbw
   go_wp2_with (at_make;go_loud (refine wpList_make_full _ rfl _ _ 136 rfl wc.heap.size 5 i0 (.int .u8 0) 1 Tryz.underlying136 hi0 hiz his .i64 .i64 _ _ NN (by rfl) (by rfl) rfl rfl (by rw [hib];omega) (by unfold maxLen;omega) (Nat.le_refl _) (fun w1 hown1 hgrow1=>?_)))
   have hb1:Below wc.heap.size wc w1:=(Below.refl _ _).grown hgrow1 (Nat.le_refl _) (by intro k hk;cases hk)
   have hown2:=own_full hown1
   have hgw:w.heap.size ≤ wc.heap.size:=HBW.out.size
   have hst:Hid (w1.heap[wc.heap.size]? = some (.cells (bufL NN []).toArray 5 (0,0))):=by
    show _ = _
    rw [hown2,show Value.cells (.int .u8 0) = #[.int .u8 0] from rfl,made_zero]
    simp [bufL,u8s]
   have hGl:G < wc.heap.size:=heap_lt HG2.out
   clear hown1 hown2 hgrow1
   generalize hgB:wc.heap.size = gB at *
   go_loopw [13,14,15] (fun jx ix _ wr=>∃ (k j:Nat),jx = .int .i64 j ∧ ix = .int .i64 k ∧ k ≤ s.size ∧ j ≤ NN ∧ Below gB wc wr ∧ Hid (wr.heap[gB]? = some (.cells (bufL NN (replL ps (l.take k))).toArray 5 (0,0))) ∧ Hid (j = (replL ps (l.take k)).length)) (fun _ ix _ _=>s.size - (intOf ix).toNat)
   case atStart=>exact ⟨0,0,rfl,rfl,Nat.zero_le _,Nat.zero_le _,hb1,hst,rfl⟩
   case round =>
    obtain ⟨k,j,rfl,rfl,hk,hj,hbr,hbuf,hjl⟩:=hrel
    by_cases hkn:k < s.size
    ·have hkl:k < l.length:=by rw [HLL.out];exact hkn
     have ho':s.data.toList[k]? = some l[k]:=by rw [HL.out];exact List.getElem?_eq_getElem hkl
     have hsn:l.take (k + 1) = l.take k ++ [l[k]]:=by rw [List.take_succ_eq_append_getElem hkl]
     have hpre:(replL ps (l.take (k + 1))).length ≤ NN:=by
      have e:replL ps l = replL ps (l.take (k + 1)) ++ replL ps (l.drop (k + 1)):=by
       unfold replL;rw [← List.flatMap_append,List.take_append_drop]
      rw [HNN.out,e,List.length_append]
      omega
     generalize l[k] = o at ho' hsn
     have hidx:=run_index_str (P:=Tryz.prog) 9 Tryz.underlying9 s k o ho'
     obtain ⟨u,hu,he⟩:=HE2.out o
     have hGr:wr.heap[G]? = some (.cells C 255 (0,0)):=(hbr.block G hGl).trans HG2.out
     have g1:wr.cell? ⟨G,o.toNat,none⟩ = some u:=(cell_heap hGr).trans hu
     have ho:o.toNat < 256:=o.toNat_lt
     rw [hsn,replL_snoc,List.length_append] at hpre
     have HS:=Lib.hid hsn
     have HBF:=Lib.hid hbuf.out
     have HJ:=Lib.hid hjl.out
     have HBR:=Lib.hid hbr
     clear hu ho' hsn hGr hbr hbuf hjl
     cases hlook:look ps o with
     | none =>
      rw [hlook] at he
      have he0:u = .slice none 0 0:=he
      subst he0
      have hform:form ps o = [o]:=by simp [form,hlook]
      rw [hform,← HJ.out] at hpre
      simp only [List.length_singleton] at hpre
      have hcell:wr.cell? ⟨gB,j,none⟩ = some ((bufL NN (replL ps (l.take k)))[j]'(by rw [bufL_length _ _ (by rw [← HJ.out];exact hj)];omega)):=by
       rw [cell_heap HBF.out]
       simp
      have hfrz:wr.frozen? ⟨gB,j,none⟩ = false:=frozen_heap HBF.out
      have HF:=Lib.hid hform
      clear he hform hlook
      generalize (bufL NN (replL ps (l.take k)))[j]'_ = old at hcell
      generalize hon:o.toNat = on at *
      have HON:=Lib.hid hon
      clear hon
      go_wp2_with fail
      go_roundw
      case rel =>
       refine ⟨k + 1,j + 1,by go_num,by go_num,by omega,by omega,HBR.out.setCell (p:=⟨gB,j,none⟩) (Nat.le_refl _) _,?_,?_⟩
       ·show _ = _
        have h1:=setCell_heap (i:=j) HBF.out (.int .u8 on)
        rw [h1,HS.out,replL_snoc,HF.out,HJ.out,← HON.out,bufL_set _ _ _ (by rw [← HJ.out];omega)]
       ·show _ = _
        rw [HS.out,replL_snoc,HF.out,List.length_append,← HJ.out]
        rfl
      case measure=>simp [intOf];omega
     | some nn =>
      rw [hlook] at he
      obtain ⟨h,cc,rfl,hsn⟩:=he
      have hform:form ps o = nn.data.toList:=by simp [form,hlook]
      rw [hform,← HJ.out,size_data] at hpre
      obtain ⟨p,hp,_,hpn⟩:=look_some ps o nn hlook
      have hsz1:=hsz p hp
      rw [hpn] at hsz1
      have HF:=Lib.hid hform
      have HSN:Hid (Sl wr (some ⟨h,0,none⟩) nn.size (bytesV nn)):=by
       refine hsn.keep fun b o e=>?_
       obtain ⟨b',o',e',hb',_⟩:=hsn.cell 0 (by rw [bytesV_length];omega)
       rw [e] at e'
       injection e' with e'
       injection e' with e1 e2
       rw [e1]
       exact HBR.out.block b' (by omega)
      clear hform hlook hp hpn hsn
      generalize hon:o.toNat = on at *
      have HON:=Lib.hid hon
      clear hon
      have hjn:j < NN:=by omega
      have hsz1':(Tryz.prog.info? 5).map (·.size) = some 1:=by rw [hi0];simp [his]
      have hcellsn:∀ (jj:Nat) (v:Value),(bytesV nn)[jj]? = some v → wr.cell? ((⟨h,0,none⟩:Addr).add jj) = some v:=by
       intro jj v hv
       obtain ⟨hjj,hvv⟩:=List.getElem?_eq_some_iff.1 hv
       obtain ⟨b',o',e',_,hc'⟩:=HSN.out.cell jj hjj
       injection e' with e'
       injection e' with e1 e2
       subst e1
       subst e2
       rw [show ((⟨h,0,none⟩:Addr).add jj) = ⟨h,0 + jj,none⟩ from Addr.add_mid h 0 jj,hc',hvv]
      have h1c:∀ v ∈ bytesV nn,v.oneCell' = true:=by intro v hv;simp only [bytesV,List.mem_map] at hv;obtain ⟨b,_,rfl⟩:=hv;rfl
      go_upto_region 28 with (fail)
      have hws:IntKind.i64.wrap ((j:Int) + nn.size) = (j:Int) + nn.size:=IntWalk.i64_in _ (by omega)
      have hj0:(0:Int) ≤ (j:Int):=by omega
      have hjN:(j:Int) ≤ (NN:Int):=by omega
      have hne:¬ NN = j:=by omega
      have hon0:(0:Int) ≤ (on:Int):=by omega
      have hon1:(on:Int) < 256:=by omega
      go_region_law ((refine step_copy_splice rfl (.tmp 105) (.tmp 111) 136 136 rfl 5 Tryz.underlying136 hsz1' (some ⟨gB,j,none⟩) (some ⟨h,0,none⟩) (NN - j) (NN - j) nn.size cc (by simp [Act.eval]) (by simp [Act.eval]) gB j (bufL NN (replL ps (l.take k))) 5 HBF.out (bytesV nn) (by rw [bytesV_length];exact (Nat.min_eq_left (by omega)).symm) (fun _=>⟨rfl,⟨h,0,none⟩,rfl,hcellsn⟩) (by rw [bytesV_length,bufL_length _ _ (by rw [← HJ.out];exact hj)];omega) h1c gB wc HBR.out.drew (Nat.le_refl _) (fun w5 h5 b5=>?_)))
      have hln:(bytesV nn).length = nn.size:=bytesV_length nn
      have H5:=h5
      clear h5 hcellsn h1c
      go_wp2_with fail
      go_roundw
      case rel =>
       refine ⟨k + 1,j + nn.size,by go_num,by go_num,by omega,by omega,b5,?_,?_⟩
       ·show _ = _
        rw [H5.out,HS.out,replL_snoc,HF.out,bytesV_u8s]
        have e:=bufL_splice NN (replL ps (l.take k)) nn.data.toList (by rw [← HJ.out,size_data];omega)
        rw [← HJ.out] at e
        rw [e]
       ·show _ = _
        rw [HS.out,replL_snoc,HF.out,List.length_append,← HJ.out,size_data]
      case measure=>simp [intOf];omega
    ·have hkn':k = s.size:=by omega
     have hfull:l.take k = l:=List.take_of_length_le (by rw [HLL.out];omega)
     have h1:=hbuf.out
     rw [hfull,HNN.out,bufL_full,u8s_bytesV] at h1
     have h2:=heap_sl h1
     rw [← u8s_bytesV,show (u8s (replL ps l)).length = (replL ps l).length by simp [u8s],← HNN.out,u8s_bytesV] at h2
     have hcv:=run_bytes_str (P:=Tryz.prog) h2 136 9 5 Tryz.underlying136 Tryz.underlying5 Tryz.underlying9 NN
     have hrs:replS ps s = ⟨(replL ps l).toArray⟩:=by unfold replS;rw [HL.out]
     have HRS:=Lib.hid hrs
     clear h1 h2 hrs hfull hbuf hjl
     generalize (⟨(replL ps l).toArray⟩:ByteArray) = rs at hcv HRS
     go_wp2_with fail
     go_ret
     refine ⟨by rw [HRS.out];rfl,HBW.out.trans (hbr.mono ?_)⟩
     exact hgw
end Go.Proofs.YtgjokdngbocehaaGreatDoor
namespace Go.Proofs.YtgjokdngbocehaaGreatDoor
open Go.RowKit
def OnceQ (b:Nat) (W:World) (ps:List (UInt8 × ByteArray)) (w2:World):Prop :=
 ∃ G,w2.heap[b]? = some (.cells #[.int .u32 0,.int .i32 1,.int .u32 0,.iface 256 (.pointer (some ⟨G,0,none⟩)),.slice none 0 0] 236 (0,0)) ∧ (∀ w',(∀ k,k ≠ b → w'.heap[k]? = w2.heap[k]?) → TabOK w' G ps) ∧ Below b W w2
set_option maxRecDepth 100000 in
set_option maxHeartbeats 1600000 in
theorem buildOnce_any (ps:List (UInt8 × ByteArray)) (b:Nat) (a:Option Addr) (n c:Nat) (x3:Value) (w:World)
  (hw:w.heap[b]? = some (.cells #[.int .u32 0,.int .i32 1,.int .u32 0,x3,.slice a n c] 236 (0,0))) (hs:Sl w a n (strsOf ps))
  (hlen:2 ≤ ps.length) (hsm:ps.length ≤ 256) (hnd:(ps.map (·.1)).Nodup) (hbig:∀ p ∈ ps,p.2.size ≤ 1048576) (hwide:ps.all (fun p=>p.2.size == 1) = false) :
  Calls Tryz.prog 149 #[.pointer (some ⟨b,0,none⟩)] w fun e w'=>e = .returned (.tuple #[]) ∧ OnceQ b w ps w':=by
 have HB:=Lib.hid (build_any ps b a n c _ _ _ _ w hw hs hlen hsm hnd hbig hwide)
 have HW:=Lib.hid hw
 have hbl:=heap_lt hw
 clear hw hs
 go_enter Tryz.func149,Tryz.ntmps149
 go_wp2_with fail
 refine HB.out.mono ?_
 rintro e w1 ⟨G,rfl,hI⟩
 have h1:=(hI.below.block b hbl).trans HW.out
 have c3:w1.cell? ⟨b,3,none⟩ = some x3:=by rw [cell_heap h1];rfl
 have f3:w1.frozen? ⟨b,3,none⟩ = false:=frozen_heap h1
 have h2:=setCell_heap (i:=3) h1 (.iface 256 (.pointer (some ⟨G,0,none⟩)))
 have c4:(w1.setCell ⟨b,3,none⟩ (.iface 256 (.pointer (some ⟨G,0,none⟩)))).cell? ⟨b,4,none⟩ = some (.slice a n c):=by rw [cell_heap h2];rfl
 have f4:(w1.setCell ⟨b,3,none⟩ (.iface 256 (.pointer (some ⟨G,0,none⟩)))).frozen? ⟨b,4,none⟩ = false:=frozen_heap h2
 have h3:=setCell_heap (i:=4) h2 (.slice none 0 0)
 have H3:=Lib.hid h3
 have HI:=Lib.hid hI
 clear h1 h2 h3 hI
 go_wp2_with fail
 go_end0
 have hb:=HI.out.below
 refine ⟨rfl,G,H3.out,fun w' hw'=>HI.out.okAt fun k hk _=>?_,?_⟩
 ·rw [hw' k (by omega),Below.heap_setCell _ _ _ _ (show k ≠ b by omega),Below.heap_setCell _ _ _ _ (show k ≠ b by omega)]
 ·exact ((hb.mono (Nat.le_of_lt hbl)).setCell (p:=⟨b,3,none⟩) (Nat.le_refl b) _).setCell (p:=⟨b,4,none⟩) (Nat.le_refl _) _
set_option maxRecDepth 100000 in
set_option maxHeartbeats 1600000 in
theorem Replace_any (ps:List (UInt8 × ByteArray)) (b:Nat) (a:Option Addr) (n c:Nat) (s:ByteArray) (w:World)
  (hw:w.heap[b]? = some (.cells #[.int .u32 0,.int .i32 0,.int .u32 0,.nilIface,.slice a n c] 236 (0,0))) (hs:Sl w a n (strsOf ps)) (hsb:∀ g o,a = some ⟨g,o,none⟩ → g ≠ b)
  (hlen:2 ≤ ps.length) (hsm:ps.length ≤ 256) (hnd:(ps.map (·.1)).Nodup) (hwide:ps.all (fun p=>p.2.size == 1) = false) (hsz:∀ p ∈ ps,1 ≤ p.2.size ∧ p.2.size ≤ 8) (hss:s.size ≤ 1099511627776) :
  Calls Tryz.prog 130 #[.pointer (some ⟨b,0,none⟩),.string s] w fun e w'=>e = .returned (.string (replS ps s)) ∧ Below b w w':=by
 have h1:=setCell_heap (i:=1) hw (.int .i32 1)
 have hs1:Sl (w.setCell ⟨b,1,none⟩ (.int .i32 1)) a n (strsOf ps):=hs.keep fun g o e=>Below.heap_setCell _ _ _ _ (hsb g o e)
 have HD:=Lib.hid (Do_any b #[.pointer (some ⟨b,0,none⟩)] _ _ _ (OnceQ b (w.setCell ⟨b,1,none⟩ (.int .i32 1)) ps) w hw
  (buildOnce_any ps b a n c _ _ h1 hs1 hlen hsm hnd (fun p hp=>by have:=hsz p hp;omega) hwide) (fun w2 ⟨G,hG,_⟩=>⟨_,_,hG⟩))
 have hmk:∀ (fn:Fn) (first cap:Array Value) (w:World),(Instr.makeFunc fn first cap).run Tryz.prog w = .ok (.func fn first cap) w:=fun _ _ _ _=>rfl
 clear h1 hs1 hw hs
 go_enter Tryz.func130,Tryz.ntmps130
 go_wp2_with fail
 refine HD.out.mono ?_
 rintro e w1 ⟨rfl,w2,⟨G,hb2,hT,hbel⟩,rfl⟩
 have h2:=setCell_heap (w:=w2.drew) (i:=0) hb2 (.int .u32 1)
 have h3:=setCell_heap (i:=1) h2 (.int .i32 0)
 have c3:((w2.drew.setCell ⟨b,0,none⟩ (.int .u32 1)).setCell ⟨b,1,none⟩ (.int .i32 0)).cell? ⟨b,3,none⟩ = some (.iface 256 (.pointer (some ⟨G,0,none⟩))):=by rw [cell_heap h3];rfl
 have hT2:=hT ((w2.drew.setCell ⟨b,0,none⟩ (.int .u32 1)).setCell ⟨b,1,none⟩ (.int .i32 0)) (fun k hk=>(Below.heap_setCell _ _ _ _ hk).trans (Below.heap_setCell _ _ _ _ hk))
 have HB:Hid (Below b w ((w2.drew.setCell ⟨b,0,none⟩ (.int .u32 1)).setCell ⟨b,1,none⟩ (.int .i32 0))):=by
  have b0:Below b w (w.setCell ⟨b,1,none⟩ (.int .i32 1)):=(Below.refl _ _).setCell (p:=⟨b,1,none⟩) (Nat.le_refl b) _
  exact (((b0.trans hbel).drew).setCell (p:=⟨b,0,none⟩) (Nat.le_refl b) _).setCell (p:=⟨b,1,none⟩) (Nat.le_refl b) _
 have hbl:b < ((w2.drew.setCell ⟨b,0,none⟩ (.int .u32 1)).setCell ⟨b,1,none⟩ (.int .i32 0)).heap.size:=heap_lt h3
 have HR:=Lib.hid (replace_any ps G s _ hT2 hsm hnd hsz hss)
 clear hT hT2 hb2 h2 h3 hbel HD
 generalize (w2.drew.setCell ⟨b,0,none⟩ (.int .u32 1)).setCell ⟨b,1,none⟩ (.int .i32 0) = w3 at *
 have hm:∀ (W:World),(method 413 256 (.pointer (some ⟨G,0,none⟩)) "Replace").run Tryz.prog W = .ok (223,.pointer (some ⟨G,0,none⟩)) W:=fun W=>by kernel_rfl
 go_wp2_with (go_at_call 223;refine HR.out.mono ?_;rintro e w4 ⟨rfl,hb4⟩)
 go_ret
 exact ⟨rfl,HB.out.trans (hb4.mono (Nat.le_of_lt hbl))⟩
theorem info_str':(Tryz.prog.info? 9).map (fun i=>(i.zero,i.size,i.bytes)) = some (some (.string ByteArray.empty),1,16):=by kernel_rfl
def RetNew (w:World) (e:Ending) (w':World) (ps:List (UInt8 × ByteArray)):Prop :=
 ∃ b a n c,e = .returned (.pointer (some ⟨b,0,none⟩)) ∧ w'.heap[b]? = some (.cells #[.int .u32 0,.int .i32 0,.int .u32 0,.nilIface,.slice a n c] 236 (0,0)) ∧ Sl w' a n (strsOf ps) ∧
  (∀ g o,a = some ⟨g,o,none⟩ → g ≠ b) ∧ Below w.heap.size w w' ∧ w.heap.size ≤ b
set_option maxRecDepth 100000 in
set_option maxHeartbeats 1600000 in
theorem New_any (ps:List (UInt8 × ByteArray)) (a:Option Addr) (n c:Nat) (w:World) (hs:Sl w a n (strsOf ps)) (hlen:2 ≤ ps.length) (hsm:ps.length ≤ 256) :
  Calls Tryz.prog 129 #[.slice a n c] w fun e w'=>RetNew w e w' ps:=by
 have hn:n = 2 * ps.length:=by have:=hs.len;rw [strsOf_length] at this;exact this
 obtain ⟨ba,oa,rfl,hba,hcs⟩:=strs_cells hs (by omega)
 have hmod:((n:Int) % 2 == 1) = false:=by simp;omega
 have hmod2:((n:Int).tmod 2 == 1) = false:=by rw [Int.tmod_eq_emod_of_nonneg (by omega)];exact hmod
 obtain ⟨is,his,hisz,his1,his2⟩:=info_parts info_str'
 have HN:=Lib.hid hn
 have HS:=Lib.hid hs
 have hnb:n ≤ 512:=by omega
 have hlen2:(strsOf ps).length = n * 1:=by rw [strsOf_length];omega
 have HL2:=Lib.hid hlen2
 have hcell:∀ (j:Nat) (u:Value),(strsOf ps)[j]? = some u → w.cell? ((⟨ba,oa,none⟩:Addr).add j) = some u:=by
  intro j u hu
  obtain ⟨hj,hv⟩:=List.getElem?_eq_some_iff.1 hu
  obtain ⟨b',o',e',_,hc'⟩:=hs.cell j hj
  injection e' with e'
  injection e' with e1 e2
  subst e1
  subst e2
  rw [Addr.add_mid,hc',hv]
 have HC:=Lib.hid hcell
 have h1c:∀ v ∈ strsOf ps,v.oneCell' = true:=by
  intro v hv
  simp only [strsOf,List.mem_flatMap] at hv
  obtain ⟨p,_,hv⟩:=hv
  simp only [List.mem_cons,List.not_mem_nil,or_false] at hv
  rcases hv with rfl | rfl <;> rfl
 have H1:=Lib.hid h1c
 clear hn hs hcs hlen2 hcell h1c
 go_enter Tryz.func129,Tryz.ntmps129
 go_wp2_with (at_builtin;go_loud (refine wpList_append_own _ rfl _ _ 220 (by rfl) w.heap.size 9 is (.string ByteArray.empty) 1 16 Tryz.underlying220 his hisz his1 his2 rfl (by decide) _ 0 [] (by rfl) (World.ownsRow_nil _ _ _ _) ⟨ba,oa,none⟩ n c (strsOf ps) (by rfl) HL2.out HC.out H1.out (by unfold maxLen;omega) (by omega) (Nat.le_refl _) (fun v1 w1 hown1 hgrow1 _=>?_));simp only [Nat.zero_add,List.nil_append] at hown1;obtain ⟨av,cv,rfl,hsl1⟩:=own_sl hown1)
 have hb1:Below w.heap.size w w1:=(Below.refl _ _).grown hgrow1 (Nat.le_refl _) (by intro k hk;cases hk)
 have hol:=hown1.lt
 go_ret
 refine ⟨w1.heap.size,av,n,cv,rfl,heap_alloc_new _ _,hsl1.keep fun g o e=>?_,fun g o e=>?_,hb1.alloc hb1.size _,hb1.size⟩
 ·have:=hol g (by rw [e];rfl)
  exact Below.heap_alloc _ _ _ this.2
 ·have:=hol g (by rw [e];rfl)
  omega
end Go.Proofs.YtgjokdngbocehaaGreatDoor
namespace Go.Proofs.YtgjokdngbocehaaGreatDoor
open Go.RowKit
def textPs:List (UInt8 × ByteArray) :=
 [(38,⟨#[38,97,109,112,59]⟩),(60,⟨#[38,108,116,59]⟩),(62,⟨#[38,103,116,59]⟩),(13,⟨#[38,35,120,68,59]⟩)]
def valuePs:List (UInt8 × ByteArray) :=
 [(38,⟨#[38,97,109,112,59]⟩),(60,⟨#[38,108,116,59]⟩),(34,⟨#[38,113,117,111,116,59]⟩),(9,⟨#[38,35,120,57,59]⟩),(10,⟨#[38,35,120,65,59]⟩),(13,⟨#[38,35,120,68,59]⟩)]
theorem sl_of_block {w:World} {g:Nat} {ps:List (UInt8 × ByteArray)} {e:TypeId} (h:w.heap[g]? = some (.cells (strsOf ps).toArray e (0,0))):Sl w (some ⟨g,0,none⟩) (strsOf ps).length (strsOf ps) :=
 ⟨rfl,fun i hi=>⟨g,0,rfl,heap_lt h,by rw [cell_heap h,Nat.zero_add];simp [hi]⟩⟩
set_option maxRecDepth 100000 in
set_option maxHeartbeats 1600000 in
theorem Text_any (s:ByteArray) (w:World) (hs:s.size ≤ 1099511627776) :
  Calls Tryz.prog 103 #[.string s] w fun e w'=>e = .returned (.string (replS textPs s)) ∧ Below w.heap.size w w':=by
 go_enter Tryz.func103,Tryz.ntmps103
 go_wp2_with fail
 have hsl:=sl_of_block (ps:=textPs) (heap_alloc_new w (.cells (strsOf textPs).toArray 9))
 refine (New_any textPs _ _ _ _ hsl (by decide) (by decide)).mono ?_
 rintro e w1 ⟨b,a,n,c,rfl,hb,hs1,hsb,hb1,hble⟩
 have hb1':Below w.heap.size w w1:=((Below.refl _ w).alloc (Nat.le_refl _) (.cells (strsOf textPs).toArray 9)).trans (hb1.mono (by simp))
 have hble':w.heap.size ≤ b:=by simp at hble;omega
 have HR:=Lib.hid (Replace_any textPs b a n c s w1 hb hs1 hsb (by decide) (by decide) (by decide) (by decide) (by decide) hs)
 clear hb hs1 hsb hb1 hble hsl
 go_wp2_with fail
 refine HR.out.mono ?_
 rintro e w2 ⟨rfl,hb2⟩
 go_wp2_with fail
 go_ret
 exact ⟨rfl,hb1'.trans (hb2.mono hble')⟩
end Go.Proofs.YtgjokdngbocehaaGreatDoor
namespace Go.Proofs.YtgjokdngbocehaaGreatDoor
open Go.RowKit
set_option maxRecDepth 100000 in
set_option maxHeartbeats 1600000 in
theorem Value_any (s:ByteArray) (w:World) (hs:s.size ≤ 1099511627776) :
  Calls Tryz.prog 101 #[.string s] w fun e w'=>e = .returned (.string (replS valuePs s)) ∧ Below w.heap.size w w':=by
 go_enter Tryz.func101,Tryz.ntmps101
 go_wp2_with fail
 have hsl:=sl_of_block (ps:=valuePs) (heap_alloc_new w (.cells (strsOf valuePs).toArray 9))
 refine (New_any valuePs _ _ _ _ hsl (by decide) (by decide)).mono ?_
 rintro e w1 ⟨b,a,n,c,rfl,hb,hs1,hsb,hb1,hble⟩
 have hb1':Below w.heap.size w w1:=((Below.refl _ w).alloc (Nat.le_refl _) (.cells (strsOf valuePs).toArray 9)).trans (hb1.mono (by simp))
 have hble':w.heap.size ≤ b:=by simp at hble;omega
 have HR:=Lib.hid (Replace_any valuePs b a n c s w1 hb hs1 hsb (by decide) (by decide) (by decide) (by decide) (by decide) hs)
 clear hb hs1 hsb hb1 hble hsl
 go_wp2_with fail
 refine HR.out.mono ?_
 rintro e w2 ⟨rfl,hb2⟩
 go_wp2_with fail
 go_ret
 exact ⟨rfl,hb1'.trans (hb2.mono hble')⟩
end Go.Proofs.YtgjokdngbocehaaGreatDoor
namespace Go.Proofs.YtgjokdngbocehaaGreatDoor
open Go.RowKit
abbrev IsB (B b:Nat) (bs:List Value) (w:World):Prop:=Lib.IsBuilderF 138 5 B b bs w
theorem infoBld:(Tryz.prog.info? 138).map (fun i=>i.size) = some 2:=by kernel_rfl
theorem liesBld:liesAt Tryz.prog Tryz.prog.depth 138 (2 / Tryz.prog.cellsOf 138) 0 138 1 = true:=by kernel_rfl
theorem underUP:Tryz.prog.underlying 193 = some .unsafePointer:=by kernel_rfl
theorem infoU8b:(Tryz.prog.info? 5).map (fun i=>(i.zero,i.size,i.bytes)) = some (some (.int .u8 0),1,1):=by kernel_rfl
set_option maxHeartbeats 1000000 in
set_option maxRecDepth 100000 in
theorem copy_used (b:Nat) (w:World) (h0:w.cell? ⟨b,0,none⟩ = some (.pointer (some ⟨b,0,none⟩))) :
  Calls Tryz.prog 100 #[.pointer (some ⟨b,0,none⟩)] w fun e w'=>e = .returned (.tuple #[]) ∧ w' = w:=by
 obtain ⟨j,hj,_⟩:=Option.map_eq_some_iff.1 infoBld
 go_enter Tryz.func100,Tryz.ntmps100
 go_wp2
 rw [Lib.run_neq_ptr_same w _ Tryz.underlying135 hj]
 go_wp2
 go_end0
 exact ⟨rfl,rfl⟩
set_option maxHeartbeats 1000000 in
set_option maxRecDepth 100000 in
theorem copy_fresh (b:Nat) (w:World) (h0:w.cell? ⟨b,0,none⟩ = some (.pointer none)) (hsh:w.shape? b = some (138,2)) (hfz:w.frozen? ⟨b,0,none⟩ = false) :
  Calls Tryz.prog 100 #[.pointer (some ⟨b,0,none⟩)] w fun e w'=>e = .returned (.tuple #[]) ∧ w' = w.setCell ⟨b,0,none⟩ (.pointer (some ⟨b,0,none⟩)):=by
 obtain ⟨j,hj,hjs⟩:=Option.map_eq_some_iff.1 infoBld
 go_enter Tryz.func100,Tryz.ntmps100
 go_wp2
 rw [Lib.run_to_unsafe w ⟨b,0,none⟩ Tryz.underlying135 underUP hj (by rw [hjs];decide) hsh (Nat.zero_lt_succ 1)]
 simp only [Result.andThen]
 rw [Oper.upon_value]
 go_wp2
 rw [run_callFunc_extern Tryz.func128 (by kernel_rfl) (by kernel_rfl) (by kernel_rfl) (e:=Extern.AbiNoEscape.same) (by kernel_rfl)]
 rw [Lib.run_noEscape]
 simp only [Result.andThen]
 rw [Oper.upon_value]
 go_wp2
 rw [Lib.run_from_unsafe w ⟨b,0,none⟩ underUP Tryz.underlying135 hj hsh liesBld]
 simp only [Result.andThen]
 rw [Oper.upon_value]
 go_wp2
 go_end0
 exact ⟨rfl,rfl⟩
theorem copy_any (B b:Nat) (bs:List Value) (w:World) (h:IsB B b bs w) :
  Calls Tryz.prog 100 #[.pointer (some ⟨b,0,none⟩)] w fun e w'=>e = .returned (.tuple #[]) ∧ Lib.BuilderAtF 138 5 B b (.pointer (some ⟨b,0,none⟩)) bs w' ∧ Below B w w':=by
 rcases h with h | h
 ·refine (copy_fresh b w h.cell0 h.shape h.frozen0).mono ?_
  rintro e w' ⟨rfl,rfl⟩
  exact ⟨rfl,h.used _,(Below.refl B w).setCell (p:=⟨b,0,none⟩) h.1 _⟩
 ·refine (copy_used b w h.cell0).mono ?_
  rintro e w' ⟨rfl,rfl⟩
  exact ⟨rfl,h,Below.refl B _⟩
set_option maxHeartbeats 2000000 in
set_option maxRecDepth 100000 in
theorem bwrite_any (B b:Nat) (l:List UInt8) (s:ByteArray) (w:World) (h:IsB B b (u8s l) w) (hlen:l.length + s.size ≤ 140737488355328) (hBw:B ≤ w.heap.size) :
  Calls Tryz.prog 70 #[.pointer (some ⟨b,0,none⟩),.string s] w fun e w'=>e = .returned (.tuple #[.int .i64 s.size,.nilIface]) ∧ IsB B b (u8s (l ++ s.data.toList)) w' ∧ Below B w w':=by
 obtain ⟨i0,hi,h3⟩:=Option.map_eq_some_iff.1 infoU8b
 simp only [Prod.mk.injEq] at h3
 obtain ⟨hz0,hz1,hz2⟩:=h3
 go_enter Tryz.func70,Tryz.ntmps70
 go_wp2_with fail
 refine (copy_any B b (u8s l) w h).mono ?_
 rintro e w1 ⟨rfl,h1,hb1⟩
 obtain ⟨hB,v,hbk,hown,hne⟩:=h1
 have c0:w1.cell? ⟨b,0,none⟩ = some (.pointer (some ⟨b,0,none⟩)):=by rw [Lib.cell_of_heap hbk];rfl
 have c1:w1.cell? ⟨b,1,none⟩ = some v:=by rw [Lib.cell_of_heap hbk];rfl
 have hul:(u8s l).length = l.length:=u8s_length l
 have HUL:=Lib.hid hul
 clear hul
 go_wp2_with (at_builtin;refine Lib.wpList_append_own_stringF _ rfl _ _ 136 9 rfl B 5 i0 Tryz.underlying136 Tryz.underlying9 hi hz0 hz1 hz2 _ _ _ rfl hown s rfl ?c3 ?c4 ?c5 ?_)
 case c3=>rw [HUL.out];unfold maxLen;omega
 case c4=>rw [HUL.out];omega
 case c5=>have:=hb1.size;omega
 intro v' w2 hown' hgrow _
 have hlt:b < w1.heap.size:=heap_lt hbk
 have hb2:w2.heap[b]? = some (.cells #[.pointer (some ⟨b,0,none⟩),v] 138 (0,0)):=by
  rw [hgrow.block b hlt (fun e=>hne e.symm)]
  exact hbk
 have d0:w2.cell? ⟨b,0,none⟩ = some (.pointer (some ⟨b,0,none⟩)):=by rw [Lib.cell_of_heap hb2];rfl
 have d1:w2.cell? ⟨b,1,none⟩ = some v:=by rw [Lib.cell_of_heap hb2];rfl
 have f1:w2.frozen? ⟨b,1,none⟩ = false:=Lib.frozen_of_heap hb2 1
 obtain ⟨ao,n',cap,rfl⟩:∃ ao n' cap,v' = .slice ao n' cap:=by
  rcases hown'.2 with ⟨hv,_⟩ | ⟨g,cap,cur,fz,hv,_⟩
  ·exact ⟨_,_,_,hv⟩
  ·exact ⟨_,_,_,hv⟩
 go_wp2
 go_ret2
 have hcells:u8s l ++ Lib.strCells s = u8s (l ++ s.data.toList):=by simp [Lib.strCells,u8s]
 refine ⟨rfl,.inr ?_,?_⟩
 ·rw [← hcells]
  exact Lib.BuilderAtF.put (T:=138) (e:=5) hB hb2 (bs':=u8s l ++ Lib.strCells s) (by simpa [Lib.strCells_length] using hown') (by decide)
 ·exact (hb1.grown hgrow (by have:=hb1.size;omega) (fun k hk=>(hown.lt k hk).1)).setCell (p:=⟨b,1,none⟩) hB _
theorem bstring_any (B b:Nat) (l:List UInt8) (w:World) (h:IsB B b (u8s l) w) (hBw:B ≤ w.heap.size) :
  Calls Tryz.prog 72 #[.pointer (some ⟨b,0,none⟩)] w fun e w'=>e = .returned (.string ⟨l.toArray⟩) ∧ IsB B b (u8s l) w' ∧ Below B w w':=by
 have e:u8s l = Lib.byteCells l:=rfl
 rw [e] at h ⊢
 exact (Tryz.Builder_String_any_k B b l w h hBw).mono fun e w' ⟨h1,h2,h3,_⟩=>⟨h1,h2,h3⟩
theorem isB_new (w:World) (B:Nat) (hB:B ≤ w.heap.size):IsB B w.heap.size (u8s []) (w.alloc (.cells #[.pointer none,.slice none 0 0] 138)):=by
 refine .inl ⟨hB,.slice none 0 0,heap_alloc_new w _,⟨rfl,.inl ⟨rfl,rfl⟩⟩,?_⟩
 simp [Value.ownBlock]
end Go.Proofs.YtgjokdngbocehaaGreatDoor
namespace Go.Proofs.YtgjokdngbocehaaGreatDoor
open Go.RowKit
set_option maxHeartbeats 2000000 in
set_option maxRecDepth 100000 in
theorem bbyte_any (B b:Nat) (l:List UInt8) (c:UInt8) (w:World) (h:IsB B b (u8s l) w) (hlen:l.length + 1 ≤ 140737488355328) (hBw:B ≤ w.heap.size) :
  Calls Tryz.prog 102 #[.pointer (some ⟨b,0,none⟩),.int .u8 c.toNat] w fun e w'=>e = .returned .nilIface ∧ IsB B b (u8s (l ++ [c])) w' ∧ Below B w w':=by
 obtain ⟨i0,hi,h3⟩:=Option.map_eq_some_iff.1 infoU8b
 simp only [Prod.mk.injEq] at h3
 obtain ⟨hz0,hz1,hz2⟩:=h3
 obtain ⟨x,hx⟩:∃ x:Int,x = (c.toNat:Int):=⟨_,rfl⟩
 rw [← hx]
 have HX:=Lib.hid hx
 clear hx
 go_enter Tryz.func102,Tryz.ntmps102
 go_wp2_with fail
 refine (copy_any B b (u8s l) w h).mono ?_
 rintro e w1 ⟨rfl,h1,hb1⟩
 obtain ⟨hB,v,hbk,hown,hne⟩:=h1
 have c0:w1.cell? ⟨b,0,none⟩ = some (.pointer (some ⟨b,0,none⟩)):=by rw [Lib.cell_of_heap hbk];rfl
 have c1:w1.cell? ⟨b,1,none⟩ = some v:=by rw [Lib.cell_of_heap hbk];rfl
 have hul:(u8s l).length = l.length:=u8s_length l
 have HUL:=Lib.hid hul
 clear hul
 go_wp2_with (at_builtin;refine wpList_append_ownF _ rfl _ _ 136 rfl B 5 i0 (.int .u8 0) 1 1 Tryz.underlying136 hi hz0 hz1 hz2 rfl (by decide) _ _ _ rfl (hown.alloc _) ⟨w1.heap.size,0,none⟩ 1 1 [.int .u8 x] rfl rfl ?c1 ?c2 ?c3 ?c4 ?c5 ?_)
 case c1 =>
  intro j u hj
  match j,hj with
  | 0,hj=>simp at hj;subst hj;simp [Addr.add]
 case c2=>intro u hu;simp at hu;subst hu;rfl
 case c3=>rw [HUL.out];unfold maxLen;omega
 case c4=>rw [HUL.out];omega
 case c5=>have:=hb1.size;simp;omega
 intro v' w2 hown' hgrow _
 have hlt:b < w1.heap.size:=heap_lt hbk
 have hb2:w2.heap[b]? = some (.cells #[.pointer (some ⟨b,0,none⟩),v] 138 (0,0)):=by
  rw [hgrow.block b (by simp;omega) (fun e=>hne e.symm),Lib.alloc_old w1 _ b hlt]
  exact hbk
 have d0:w2.cell? ⟨b,0,none⟩ = some (.pointer (some ⟨b,0,none⟩)):=by rw [Lib.cell_of_heap hb2];rfl
 have d1:w2.cell? ⟨b,1,none⟩ = some v:=by rw [Lib.cell_of_heap hb2];rfl
 have f1:w2.frozen? ⟨b,1,none⟩ = false:=Lib.frozen_of_heap hb2 1
 obtain ⟨g,cap,rfl⟩:∃ g cap,v' = .slice (some ⟨g,0,none⟩) ((u8s l).length + 1) cap:=by
  rcases hown'.2 with ⟨_,h0⟩ | ⟨g,cap,cur,fz,hv,_⟩
  ·omega
  ·exact ⟨g,cap,hv⟩
 go_wp2
 go_ret
 have hcells:u8s l ++ [.int .u8 x] = u8s (l ++ [c]):=by rw [HX.out];simp [u8s]
 refine ⟨rfl,.inr ?_,?_⟩
 ·rw [← hcells]
  exact Lib.BuilderAtF.put (T:=138) (e:=5) hB hb2 (bs':=u8s l ++ [.int .u8 x]) (by simpa using hown') (by decide)
 ·exact ((hb1.alloc (by have:=hb1.size;omega) _).grown hgrow (by have:=hb1.size;simp;omega) (fun k hk=>(hown.lt k hk).1)).setCell (p:=⟨b,1,none⟩) hB _
end Go.Proofs.YtgjokdngbocehaaGreatDoor
