/-
  Package words: borders.
-/
import Derived.Test.YtgjokdngbocehaaGreatDoorHsA
import Derived.Test.YtgjokdngbocehaaGreatDoorHsD
import Derived.Test.YtgjokdngbocehaaGreatDoorHsE
import Derived.Test.YtgjokdngbocehaaGreatDoorHsL
import Derived.Test.YtgjokdngbocehaaGreatDoorHsN
import Derived.Test.YtgjokdngbocehaaGreatDoorHsQ
namespace Go.Proofs.YtgjokdngbocehaaGreatDoor
open Go.RowKit
def natV (l:List Nat):List Value:=l.map fun (k:Nat)=>Value.int .i64 (k:Nat)
structure BordAt (ys:List Int) (B:List Nat) (i:Nat):Prop where
 len:B.length = ys.length
 at':∀ m,m < i → m < ys.length → ∃ b,B[m]? = some b ∧ KBord (chF ys) m b
theorem BordAt.start (ys:List Int):BordAt ys (List.replicate ys.length 0) 1:=by
 refine ⟨by simp,fun m hm hl=>?_⟩
 have:m = 0:=by omega
 subst this
 exact ⟨0,by rw [List.getElem?_replicate,if_pos hl],KBord.one _⟩
theorem BordAt.put {ys:List Int} {B:List Nat} {i b:Nat} (h:BordAt ys B i) (hi:i < ys.length) (hb:KBord (chF ys) i b):BordAt ys (B.set i b) (i + 1):=by
 refine ⟨by rw [List.length_set];exact h.len,fun m hm hl=>?_⟩
 by_cases e:i = m
 ·subst e
  exact ⟨b,by rw [List.getElem?_set,if_pos rfl,if_pos (by rw [h.len];exact hi)],hb⟩
 ·obtain ⟨c,h1,h2⟩:=h.at' m (by omega) hl
  exact ⟨c,by rw [List.getElem?_set,if_neg e];exact h1,h2⟩
theorem infoIntB:(Tryz.prog.info? 3).map (fun i=>(i.zero,i.size,i.bytes)) = some (some (.int .i64 0),1,8):=by kernel_rfl
theorem natV_set (B:List Nat) (i b:Nat):(natV B).set i (.int .i64 (b:Nat)) = natV (B.set i b):=by unfold natV;rw [List.map_set]
theorem natV_cell {w:World} {base g n c:Nat} {e:TypeId} {B:List Nat} (h:w.ownsRow base e 1 (.slice (some ⟨g,0,none⟩) n c) n (natV B)) (hl:B.length = n) {m b:Nat} (hb:B[m]? = some b) :
  w.cell? ⟨g,m,none⟩ = some (.int .i64 (b:Nat)):=by
 have hm:m < n:=by rw [← hl];exact (List.getElem?_eq_some_iff.1 hb).1
 rw [h.cellAt m (by omega)]
 unfold natV
 rw [List.getElem?_map,hb];rfl
set_option maxRecDepth 100000 in
set_option maxHeartbeats 4000000 in
theorem borders_any (a:Option Addr) (n c:Nat) (ys:List Int) (w:World) (h:Sl w a n (i32s ys)) (hn:n ≤ 1048576) :
  Calls Tryz.prog 146 #[.slice a n c] w fun e w'=>∃ g B,e = .returned (.slice (some ⟨g,0,none⟩) n n) ∧ Sl w' (some ⟨g,0,none⟩) n (natV B) ∧ BordAt ys B n ∧ Below w.heap.size w w':=by
 obtain ⟨i0,hi,hz0,hz1,hz2⟩:=info_parts infoIntB
 have HN:Hid (n = ys.length):=Lib.hid (by have:=h.len;rw [i32s_len] at this;exact this)
 have HS:=Lib.hid h
 clear h
 go_enter Tryz.func146,Tryz.ntmps146
 go_wp2_with (at_make;go_must ((refine wpList_make_full _ (by rfl) _ _ 66 (by rfl) w.heap.size 3 i0 _ 1 Tryz.underlying66 hi hz0 hz1 .i64 .i64 (n:Int) (n:Int) n (by rfl) (by rfl) rfl rfl (by rw [hz2];omega) (by unfold maxLen;omega) (Nat.le_refl _) (fun w1 hown hgr=>?_))))
 have hb1:Below w.heap.size w w1:=(Below.refl _ w).grown hgr (Nat.le_refl _) (fun k hk=>by cases hk)
 have hrow0:(madeCells (Value.int .i64 0).cells (n * 1)).toList = natV (List.replicate ys.length 0):=by
  rw [← HN.out,Nat.mul_one]
  show (madeCells #[Value.int .i64 0] n).toList = _
  rw [toList_madeCells_one];simp [natV]
 have HOW:Hid (w1.ownsRow w.heap.size 3 1 (.slice (some ⟨w.heap.size,0,none⟩) n n) n (natV (List.replicate ys.length 0))):=Lib.hid (by rw [← hrow0];exact hown)
 clear hown hrow0 hgr
 generalize hg:w.heap.size = g at *
 go_loopw [4] (fun iv wr=>∃ (i:Nat) (B:List Nat),iv = .int .i64 i ∧ 1 ≤ i ∧ i ≤ n + 1 ∧ Hid (Below g w wr ∧ wr.ownsRow g 3 1 (.slice (some ⟨g,0,none⟩) n n) n (natV B) ∧ BordAt ys B i)) (fun iv _=>n + 1 - (intOf iv).toNat)
 case atStart=>exact ⟨1,List.replicate ys.length 0,rfl,Nat.le_refl _,by omega,Lib.hid ⟨hb1,HOW.out,BordAt.start ys⟩⟩
 case round =>
  obtain ⟨i,B,rfl,hi1,hin,HR⟩:=hrel
  obtain ⟨w11,rfl⟩:∃ w11,w11 = wr:=⟨_,rfl⟩
  by_cases hlt:i < n
  ·have hily:i < ys.length:=by rw [← HN.out];exact hlt
   obtain ⟨b0,o0,rfl,hblt,-⟩:=HS.out.cell i (by rw [i32s_len];exact hily)
   have HB:=Lib.hid (HR.out.1)
   have HT:Hid (∀ j,j < n → w11.cell? ⟨b0,o0 + j,none⟩ = some (.int .i32 (chF ys j))):=Lib.hid fun j hj=>by
    obtain ⟨b',o',e,hlt',hc⟩:=HS.out.cell j (by rw [i32s_len,← HN.out];exact hj)
    cases e
    rw [HB.out.cell (p:=⟨b0,o0 + j,none⟩) (by rw [← hg];exact hlt'),hc]
    simp only [i32s,List.getElem_map]
    rw [← Option.some.inj ((List.getElem?_eq_getElem (show j < ys.length by rw [← HN.out];exact hj)).symm.trans (chF_at (show j < ys.length by rw [← HN.out];exact hj)))]
   obtain ⟨kb,hkb,hkbd⟩:=HR.out.2.2.at' (i - 1) (by omega) (by omega)
   have HC:Hid (∀ m,m < i → ∃ b,w11.cell? ⟨g,m,none⟩ = some (.int .i64 (b:Nat)) ∧ KBord (chF ys) m b):=Lib.hid fun m hm=>by
    obtain ⟨b,h1,h2⟩:=HR.out.2.2.at' m hm (by omega)
    exact ⟨b,natV_cell HR.out.2.1 (by rw [HR.out.2.2.len,← HN.out]) h1,h2⟩
   have k0:w11.cell? ⟨g,i - 1,none⟩ = some (.int .i64 (kb:Nat)):=natV_cell HR.out.2.1 (by rw [HR.out.2.2.len,← HN.out]) hkb
   have e0:=HT.out i hlt
   have i1:(0:Int) ≤ (i:Int) - 1:=by omega
   have i2:(i:Int) - 1 < (n:Int):=by omega
   have i3:(i:Int) < (n:Int):=by omega
   have i4:((i:Int) - 1).toNat = i - 1:=by omega
   have ew:IntKind.i64.wrap ((i:Int) - 1) = (i:Int) - 1:=IntWalk.i64_in _ (by omega)
   have hkb1:kb ≤ i - 1:=hkbd.1.1
   have HKB:Hid (KTry (fun j=>chF ys (j + 1)) (chF ys) i (i - 1) kb (chF ys i)):=Lib.hid (by
    have:=hkbd.try' (chF ys i)
    rwa [show i - 1 + 1 = i by omega] at this)
   have HFIN:Hid (∀ m (x:Nat),KBord (chF ys) i x → Below g w ((w11.drewN m).setCell ⟨g,i,none⟩ (.int .i64 (x:Nat))) ∧ ((w11.drewN m).setCell ⟨g,i,none⟩ (.int .i64 (x:Nat))).ownsRow g 3 1 (.slice (some ⟨g,0,none⟩) n n) n (natV (B.set i x)) ∧ BordAt ys (B.set i x) (i + 1)):=Lib.hid fun m x hx=>by
    refine ⟨(Below.drewN HR.out.1 m).setCell (p:=⟨g,i,none⟩) (Nat.le_refl _) _,?_,HR.out.2.2.put hily hx⟩
    rw [← natV_set]
    exact (World.ownsRow.stored (w:=w11.drewN m) (own_block HR.out.2.1 fun _ _=>rfl) i _).1
   have HGO:Hid (∀ k,KTry (fun j=>chF ys (j + 1)) (chF ys) i (i - 1) k (chF ys i) → chF ys k = chF ys i → KBord (chF ys) i (k + 1)):=Lib.hid fun k h1 h2=>by
    have e:i = i - 1 + 1:=by omega
    rw [e] at h1 h2 ⊢
    rw [Nat.add_sub_cancel] at h1
    exact KBord.goes h1 h2
   have HNO:Hid (KTry (fun j=>chF ys (j + 1)) (chF ys) i (i - 1) 0 (chF ys i) → chF ys 0 ≠ chF ys i → KBord (chF ys) i 0):=Lib.hid fun h1 h2=>by
    have e:i = i - 1 + 1:=by omega
    rw [e] at h1 h2 ⊢
    rw [Nat.add_sub_cancel] at h1
    exact KBord.none' h1 h2
   have hil:i < B.length:=by rw [HR.out.2.2.len];exact hily
   have si:w11.cell? ⟨g,i,none⟩ = some (.int .i64 (B[i]:Nat)):=natV_cell HR.out.2.1 (by rw [HR.out.2.2.len,← HN.out]) (List.getElem?_eq_getElem hil)
   have fi:w11.frozen? ⟨g,i,none⟩ = false:=HR.out.2.1.frozenAt i
   generalize B[i] = bi at si
   clear hkbd hkb hblt hily hil
   generalize hci:chF ys i = ci at *
   go_wp2_with fail
   go_loopw [5] (fun kv wr=>∃ k:Nat,kv = .int .i64 k ∧ k ≤ i - 1 ∧ (∃ m,wr = w11.drewN m) ∧ Hid (KTry (fun j=>chF ys (j + 1)) (chF ys) i (i - 1) k ci)) (fun kv _=>(intOf kv).toNat)
   case atStart=>exact ⟨kb,rfl,hkb1,⟨0,rfl⟩,HKB⟩
   case round =>
    obtain ⟨k,rfl,hk1,⟨m,rfl⟩,HK⟩:=hrel
    by_cases hk0:0 < k
    ·have ek:=HT.out k (by omega)
     have HKF:Hid (chF ys (k - 1 + 1) = chF ys k):=Lib.hid (by rw [show k - 1 + 1 = k by omega])
     obtain ⟨nb,kn,hnb⟩:=HC.out (k - 1) (by omega)
     have hnb1:nb ≤ k - 1:=hnb.1.1
     have j1:(0:Int) < (k:Int):=by omega
     have j2:(k:Int) < (n:Int):=by omega
     have j3:(0:Int) ≤ (k:Int):=by omega
     have j4:(0:Int) ≤ (k:Int) - 1:=by omega
     have j5:(k:Int) - 1 < (n:Int):=by omega
     have j6:((k:Int) - 1).toNat = k - 1:=by omega
     have ewk:IntKind.i64.wrap ((k:Int) - 1) = (k:Int) - 1:=IntWalk.i64_in _ (by omega)
     have HNB:=Lib.hid hnb
     clear hnb
     generalize hck:chF ys k = ck at *
     by_cases hne:ck = ci
     ·have t1:((ck:Int) != ci) = false:=by simp [hne]
      have t2:((ck:Int) == ci) = true:=by simp [hne]
      have HNE:=Lib.hid hne
      clear hne
      have hd:decide ((k:Int) > 0) = true:=by simp;omega
      go_wp2_with (go_quiet (fail))
      go_roundw
      case rel=>exact ⟨i + 1,B.set i (k + 1),by go_num,by omega,by omega,Lib.hid (HFIN.out _ (k + 1) (HGO.out k HK.out (by rw [hck];exact HNE.out)))⟩
      case measure=>simp [intOf];omega
     ·have t1:((ck:Int) != ci) = true:=by simpa using hne
      have t2:((ck:Int) == ci) = false:=by simpa using hne
      have HNE:=Lib.hid hne
      clear hne
      have hd:decide ((k:Int) > 0) = true:=by simp;omega
      go_wp2_with (go_quiet (fail))
      go_roundw
      case rel=>exact ⟨nb,rfl,by omega,⟨_,rfl⟩,Lib.hid (by
       have h1:=HK.out
       have e1:=HKF.out
       have e2:=HNB.out
       obtain ⟨kk,rfl⟩:∃ kk,k = kk + 1:=⟨k - 1,by omega⟩
       rw [Nat.add_sub_cancel] at e1 e2
       exact h1.back (by rw [e1];exact HNE.out) e2)⟩
      case measure=>simp [intOf];omega
    ·have hk:k = 0:=by omega
     subst hk
     have ek:=HT.out 0 (by omega)
     generalize hck:chF ys 0 = ck at *
     rw [Nat.add_zero] at ek
     have j2:(0:Int) < (n:Int):=by omega
     have hd:decide (((0:Nat):Int) > 0) = false:=by simp
     rw [show ((0:Nat):Int) = 0 from rfl]
     by_cases hne:ck = ci
     ·have t2:((ck:Int) == ci) = true:=by simp [hne]
      have HNE:=Lib.hid hne
      clear hne
      go_wp2_with (go_quiet (fail))
      go_roundw
      case rel=>exact ⟨i + 1,B.set i 1,by go_num,by omega,by omega,Lib.hid (HFIN.out _ 1 (HGO.out 0 HK.out (by rw [hck];exact HNE.out)))⟩
      case measure=>simp [intOf];omega
     ·have t2:((ck:Int) == ci) = false:=by simpa using hne
      have HNE:=Lib.hid hne
      clear hne
      go_wp2_with (go_quiet (fail))
      go_roundw
      case rel=>exact ⟨i + 1,B.set i 0,by go_num,by omega,by omega,Lib.hid (HFIN.out _ 0 (HNO.out HK.out HNE.out))⟩
      case measure=>simp [intOf];omega
  ·have hbd:BordAt ys B n:=⟨HR.out.2.2.len,fun m hm hl=>HR.out.2.2.at' m (by omega) hl⟩
   have HBD:=Lib.hid hbd
   clear hbd
   go_wp2_with fail
   go_ret
   obtain ⟨h1,h2,_⟩:=HR.out
   obtain ⟨a',c',e1,hs⟩:=own_sl h2
   cases e1
   exact ⟨g,B,rfl,hs,HBD.out,hg ▸ h1⟩
end Go.Proofs.YtgjokdngbocehaaGreatDoor
namespace Go.Proofs.YtgjokdngbocehaaGreatDoor
open Go.RowKit
set_option maxRecDepth 100000 in
set_option maxHeartbeats 4000000 in
theorem Find_any (s t:ByteArray) (w:World) (hs:s.size ≤ 1048576) (ht:t.size ≤ 1048576) :
  Calls Tryz.prog 121 #[.string s,.string t] w fun e w'=>e = .returned (.int .i64 (findL (runesOf s) (runesOf t))) ∧ Below w.heap.size w w':=by
 have HT:=Lib.hid (fun W=>runes_box t W ht)
 have hlt:=runesOf_length t
 have HLS:Hid ((runesOf s).length ≤ s.size):=Lib.hid (runesOf_length s)
 generalize runesOf t = ys at *
 obtain ⟨xs,hxs⟩:∃ xs,runesOf s = xs:=⟨_,rfl⟩
 rw [hxs] at HLS ⊢
 have HXS:=Lib.hid hxs
 clear hxs
 obtain ⟨R,hR⟩:∃ R,findL xs ys = R:=⟨_,rfl⟩
 rw [hR]
 have HR:=Lib.hid hR
 clear hR
 go_enter Tryz.func121,Tryz.ntmps121
 go_wp2_with fail
 (with_reducible refine (HT.out _).mono ?_)
 rintro e w1 ⟨⟨g1,n1,c1,rfl,hc1,h1⟩,b1⟩
 have hy:n1 = ys.length:=by have:=h1.len;simpa using this
 have HY:=Lib.hid hy
 by_cases h0:n1 = 0
 ·subst h0
  have HZ:Hid (0 = R):=Lib.hid (by
   rw [← HR.out,List.eq_nil_of_length_eq_zero hy.symm,findL_nil])
  have q:(((0:Nat):Int) == 0) = true:=rfl
  have HB:=Lib.hid b1
  clear h1 hy hlt b1
  go_wp2_with fail
  go_ret
  exact ⟨ret_int HZ.out,HB.out⟩
 have q:((n1:Int) == 0) = false:=by simp;omega
 have HBO:=Lib.hid (borders_any (some ⟨g1,0,none⟩) n1 c1 ys w1 h1 (by omega))
 have H1:=Lib.hid h1
 have HB1:=Lib.hid b1
 have hn1:n1 ≤ 1048576:=by omega
 clear h1 hy hlt b1
 go_wp2_with fail
 (with_reducible refine HBO.out.mono ?_)
 rintro e w2 ⟨gb,B,rfl,hsb,hbd,b2⟩
 have HB2:=Lib.hid (Below.tr HB1.out b2)
 have HIT:Hid (∀ pos,Below w2.heap.size w2 (w2.iter s pos)):=Lib.hid fun pos=>(Below.refl _ _).alloc (Nat.le_refl _) _
 have HY1:Hid (∀ pos k,k < n1 → (w2.iter s pos).cell? ⟨g1,k,none⟩ = some (.int .i32 (chF ys k))):=Lib.hid fun pos k hk=>by
  obtain ⟨b',o',e,hlt',hc⟩:=((H1.out.below b2).below (HIT.out pos)).cell k (by rw [List.length_map,← HY.out];exact hk)
  cases e
  rw [Nat.zero_add] at hc
  rw [hc]
  simp only [List.getElem_map]
  rw [← Option.some.inj ((List.getElem?_eq_getElem (show k < ys.length by rw [← HY.out];exact hk)).symm.trans (chF_at (show k < ys.length by rw [← HY.out];exact hk)))]
 have HBD:Hid (∀ pos k,k < n1 → ∃ b,(w2.iter s pos).cell? ⟨gb,k,none⟩ = some (.int .i64 (b:Nat)) ∧ KBord (chF ys) k b):=Lib.hid fun pos k hk=>by
  obtain ⟨b,h2,h3⟩:=hbd.at' k hk (by rw [← HY.out];exact hk)
  obtain ⟨b',o',e,hlt',hc⟩:=(hsb.below (HIT.out pos)).cell k (by unfold natV;rw [List.length_map,hbd.len,← HY.out];exact hk)
  cases e
  rw [Nat.zero_add] at hc
  refine ⟨b,?_,h3⟩
  rw [hc]
  simp only [natV,List.getElem_map]
  rw [Option.some.inj ((List.getElem?_eq_getElem (show k < B.length by rw [hbd.len,← HY.out];exact hk)).symm.trans h2)]
 clear hsb hbd b2
 go_wp2_with fail
 go_loopw [7,8] (fun kv nv wr=>∃ (pos k n:Nat),wr = w2.iter s pos ∧ kv = .int .i64 k ∧ nv = .int .i64 n ∧ k < n1 ∧ n ≤ 1048576 ∧ Hid (xs.drop n = runesAt s pos ∧ n ≤ xs.length ∧ KLong (chF xs) (chF ys) ys.length n k ∧ ∀ p,¬ KStands (chF xs) (chF ys) ys.length n p)) (fun _ _ wr=>s.size - wr.iterPos w2.heap.size)
 case atStart=>exact ⟨0,0,0,rfl,rfl,rfl,by omega,Nat.zero_le _,Lib.hid ⟨by rw [runesAt_zero,List.drop_zero];exact HXS.out.symm,Nat.zero_le _,KLong.zero _ _ _,kstands_start (by rw [← HY.out];omega)⟩⟩
 case round =>
  obtain ⟨pos,k0,n,rfl,rfl,rfl,hk0,hnb,HQ⟩:=hrel
  by_cases hp:pos < s.size
  ·have hnx:∀ ty,(Instr.next (.pointer (some ⟨w2.heap.size,0,none⟩)) true ty).run Tryz.prog (w2.iter s pos) = _:=fun ty=>run_next_any w2 s pos ty hp
   have hwd:=width_pos s pos hp
   obtain ⟨q1,q2,q3,q4⟩:=HQ.out
   rw [runesAt_step s pos hp] at q1
   have hnl:n < xs.length:=by
    rcases Nat.lt_or_ge n xs.length with h | h
    ·exact h
    ·rw [List.drop_of_length_le h] at q1;cases q1
   have hnb2:n + 1 ≤ 1048576:=by have:=HLS.out;omega
   have hxn:xs.drop n = xs[n] :: xs.drop (n + 1):=List.drop_eq_getElem_cons hnl
   rw [hxn] at q1
   injection q1 with q5 q6
   have q7:chF xs n = ((Utf8.decode s pos).1:Int):=by rw [← q5];unfold chF;rw [List.getElem?_eq_getElem hnl];rfl
   have HQ6:Hid (xs.drop (n + 1) = runesAt s (pos + (Utf8.decode s pos).2) ∧ n + 1 ≤ xs.length):=Lib.hid ⟨q6,hnl⟩
   have HTR:Hid (KTry (chF xs) (chF ys) ys.length n k0 ((Utf8.decode s pos).1:Int)):=Lib.hid (q3.try' _)
   have HNO:=Lib.hid q4
   have HCN:=Lib.hid q7
   clear q2 q3 q4 q5 q6 q7 hxn hnl HQ
   go_wp2_with fail
   generalize hpo:pos + (Utf8.decode s pos).2 = pos2 at *
   generalize hrr:((Utf8.decode s pos).1:Int) = r at *
   go_loopw [7] (fun kv wr=>∃ k:Nat,kv = .int .i64 k ∧ k < n1 ∧ wr = w2.iter s pos2 ∧ Hid (KTry (chF xs) (chF ys) ys.length n k r)) (fun kv _=>(intOf kv).toNat)
   case atStart=>exact ⟨k0,rfl,hk0,rfl,HTR⟩
   case round =>
    obtain ⟨k,rfl,hk1,rfl,HK⟩:=hrel
    have ek:=HY1.out pos2 k hk1
    have j2:(k:Int) < (n1:Int):=by omega
    have j3:(0:Int) ≤ (k:Int):=by omega
    have HGO:Hid (chF ys k = r → KLong (chF xs) (chF ys) ys.length (n + 1) (k + 1)):=Lib.hid fun h=>by
     have h1:=HK.out
     rw [← HCN.out] at h1 h
     exact h1.goes h
    have HBK:Hid (0 < k → ∃ b,(w2.iter s pos2).cell? ⟨gb,k - 1,none⟩ = some (.int .i64 (b:Nat)) ∧ b ≤ k - 1 ∧ (chF ys k ≠ r → KTry (chF xs) (chF ys) ys.length n b r)):=Lib.hid fun h=>by
     obtain ⟨b,h2,h3⟩:=HBD.out pos2 (k - 1) (by omega)
     refine ⟨b,h2,h3.1.1,fun hne=>?_⟩
     have h1:=HK.out
     obtain ⟨kk,rfl⟩:∃ kk,k = kk + 1:=⟨k - 1,by omega⟩
     rw [Nat.add_sub_cancel] at h3
     exact h1.back hne h3
    have HNN:Hid (k = 0 → chF ys k ≠ r → KLong (chF xs) (chF ys) ys.length (n + 1) 0):=Lib.hid fun h h'=>by
     subst h
     have h1:=HK.out
     rw [← HCN.out] at h1 h'
     exact h1.none' h'
    have HRET:Hid (k + 1 = n1 → KLong (chF xs) (chF ys) ys.length (n + 1) (k + 1) → ((n + 1:Nat):Int) - ((k + 1:Nat):Int) = R):=Lib.hid fun h h1=>by
     have hle:=h1.1.1
     rw [h,HY.out] at h1
     obtain ⟨h2,h3⟩:=kstands_found (N:=xs.length) h1 HQ6.out.2 HNO.out
     rw [← HR.out,findL_found h2 h3,← HY.out,← h]
     omega
    have HREL:Hid (∀ kk,kk < n1 → KLong (chF xs) (chF ys) ys.length (n + 1) kk → xs.drop (n + 1) = runesAt s pos2 ∧ n + 1 ≤ xs.length ∧ KLong (chF xs) (chF ys) ys.length (n + 1) kk ∧ ∀ p,¬ KStands (chF xs) (chF ys) ys.length (n + 1) p):=Lib.hid fun kk h1 h2 =>
     ⟨HQ6.out.1,HQ6.out.2,h2,kstands_next h2 (by rw [← HY.out];exact h1) HNO.out⟩
    have hwd2:pos < pos2 ∧ pos < s.size:=⟨by omega,hp⟩
    generalize hck:chF ys k = ck at *
    have ewn:IntKind.i64.wrap ((n:Int) + 1) = (n:Int) + 1:=IntWalk.i64_in _ (by omega)
    have ewk1:IntKind.i64.wrap ((k:Int) + 1) = (k:Int) + 1:=IntWalk.i64_in _ (by omega)
    have ewd:IntKind.i64.wrap ((n:Int) + 1 - ((k:Int) + 1)) = (n:Int) + 1 - ((k:Int) + 1):=IntWalk.i64_in _ (by omega)
    by_cases hne:ck = r
    ·have t1:((ck:Int) != r) = false:=by simp [hne]
     have t2:((ck:Int) == r) = true:=by simp [hne]
     have HKL:=Lib.hid (HGO.out hne)
     have HNE:=Lib.hid hne
     clear hne
     by_cases hkn:k + 1 = n1
     ·have t3:((k:Int) + 1 == (n1:Int)) = true:=by simp;omega
      have HRR:=Lib.hid (HRET.out hkn HKL.out)
      go_wp2_with fail
      all_goals
       go_ret
       exact ⟨ret_int HRR.out,HB2.out.trans ((HIT.out pos2).mono HB2.out.size)⟩
     ·have t3:((k:Int) + 1 == (n1:Int)) = false:=by simp;omega
      go_wp2_with fail
      all_goals
       go_roundw
       case rel=>exact ⟨pos2,k + 1,n + 1,rfl,by go_num,by go_num,by omega,by omega,Lib.hid (HREL.out (k + 1) (by omega) HKL.out)⟩
       case measure=>simp;omega
    ·have t1:((ck:Int) != r) = true:=by simpa using hne
     have t2:((ck:Int) == r) = false:=by simpa using hne
     have HNE:=Lib.hid hne
     clear hne
     by_cases hk0':0 < k
     ·obtain ⟨nb,kn,hnb,hback⟩:=HBK.out hk0'
      have HBA:=Lib.hid hback
      clear hback
      have j1:(0:Int) < (k:Int):=by omega
      have j4:(0:Int) ≤ (k:Int) - 1:=by omega
      have j5:(k:Int) - 1 < (n1:Int):=by omega
      have j6:((k:Int) - 1).toNat = k - 1:=by omega
      have ewk:IntKind.i64.wrap ((k:Int) - 1) = (k:Int) - 1:=IntWalk.i64_in _ (by omega)
      go_wp2_with fail
      go_roundw
      case rel=>exact ⟨nb,rfl,by omega,by trivial,Lib.hid (HBA.out HNE.out)⟩
      case measure=>simp [intOf];omega
     ·have hk:k = 0:=by omega
      subst hk
      rw [show ((0:Nat):Int) = 0 from rfl]
      have HKL:=Lib.hid (HNN.out rfl HNE.out)
      have t3:((0:Int) == (n1:Int)) = false:=by simp;omega
      go_wp2_with fail
      go_roundw
      case rel=>exact ⟨pos2,0,n + 1,rfl,rfl,by go_num,by omega,by omega,Lib.hid (HREL.out 0 (by omega) HKL.out)⟩
      case measure=>simp;omega
  ·have hnx:∀ ty,(Instr.next (.pointer (some ⟨w2.heap.size,0,none⟩)) true ty).run Tryz.prog (w2.iter s pos) = _:=fun ty=>run_next_end w2 s pos ty hp
   have HF:Hid (-1 = R):=Lib.hid (by
    obtain ⟨q1,q2,q3,q4⟩:=HQ.out
    rw [runesAt_end s pos hp] at q1
    have:n = xs.length:=by
     have:=congrArg List.length q1
     rw [List.length_drop] at this
     simp at this;omega
    rw [this] at q4
    rw [← HR.out,findL_none q4])
   go_wp2_with fail
   go_ret
   exact ⟨ret_int HF.out,HB2.out.trans ((HIT.out pos).mono HB2.out.size)⟩
end Go.Proofs.YtgjokdngbocehaaGreatDoor
namespace Go.Proofs.YtgjokdngbocehaaGreatDoor
open Go.RowKit
def cmpR (s:List UInt8) (c:Int) (t:List UInt8) (n:Int):Value:=.tuple #[.bool ((cmpB s c t n).getD false),.int .i64 (if (cmpB s c t n).isSome then 0 else 4)]
theorem cmpR_some {s:List UInt8} {c:Int} {t:List UInt8} {n:Int} {b:Bool} (h:cmpB s c t n = some b):cmpR s c t n = .tuple #[.bool b,.int .i64 0]:=by unfold cmpR;rw [h];rfl
theorem cmpR_none {s:List UInt8} {c:Int} {t:List UInt8} {n:Int} (h:cmpB s c t n = none):cmpR s c t n = .tuple #[.bool false,.int .i64 4]:=by unfold cmpR;rw [h];rfl
set_option maxRecDepth 100000 in
set_option maxHeartbeats 4000000 in
theorem Compared_any (s t:List UInt8) (c n:Int) (w:World) (hs:s.length ≤ 1048576) (ht:t.length ≤ 1048576) :
  Calls Tryz.prog 94 #[.string (strL s),.int .i64 c,.string (strL t),.int .i64 n] w fun e w'=>e = .returned (cmpR s c t n) ∧ Below w.heap.size w w':=by
 have hs':(strL s).size ≤ 1048576:=by rw [strL_size];exact hs
 have ht':(strL t).size ≤ 1048576:=by rw [strL_size];exact ht
 have HC:=Lib.hid fun W=>Compare_any (strL s) (strL t) W hs' ht'
 have HBG:=Lib.hid fun W=>Begins_any (strL s) (strL t) W hs' ht'
 have HEN:=Lib.hid fun W=>Ends_any (strL s) (strL t) W hs' ht'
 have HFI:=Lib.hid fun W=>Find_any (strL s) (strL t) W hs' ht'
 have HLE:=Lib.hid fun W=>Length_any (strL s) W hs'
 clear hs ht hs' ht'
 by_cases hc:c < 0 ∨ 8 < c
 ·rw [cmpR_none (cmpB_none hc)]
  have t0:(c == 0) = false:=by simp;omega
  have t1:(c == 1) = false:=by simp;omega
  have t2:(c == 2) = false:=by simp;omega
  have t3:(c == 3) = false:=by simp;omega
  have t4:(c == 4) = false:=by simp;omega
  have t5:(c == 5) = false:=by simp;omega
  have t6:(c == 6) = false:=by simp;omega
  have t7:(c == 7) = false:=by simp;omega
  have t8:(c == 8) = false:=by simp;omega
  clear hc
  go_enter Tryz.func94,Tryz.ntmps94
  go_wp2_with fail
  go_ret2
  exact ⟨rfl,Below.refl _ _⟩
 have hc2:c = 0 ∨ c = 1 ∨ c = 2 ∨ c = 3 ∨ c = 4 ∨ c = 5 ∨ c = 6 ∨ c = 7 ∨ c = 8:=by omega
 clear hc
 rcases hc2 with rfl | rfl | rfl | rfl | rfl | rfl | rfl | rfl | rfl
 ·rw [cmpR_some (b:=true) rfl]
  go_enter Tryz.func94,Tryz.ntmps94
  go_wp2_with fail
  go_ret2
  exact ⟨rfl,Below.refl _ _⟩
 ·rw [cmpR_some (b:=decide (cmpL (runesOf (strL s)) (runesOf (strL t)) = 0)) rfl]
  generalize cmpL (runesOf (strL s)) (runesOf (strL t)) = v at *
  obtain ⟨R,hR⟩:∃ R,decide (v = 0) = R:=⟨_,rfl⟩
  rw [hR]
  have t1:((v:Int) == 0) = R:=by rw [← hR];rfl
  clear hR
  go_enter Tryz.func94,Tryz.ntmps94
  go_wp2_with fail
  (with_reducible refine (HC.out _).mono ?_)
  rintro e w1 ⟨rfl,hb⟩
  go_wp2_with fail
  go_ret2
  exact ⟨rfl,hb⟩
 ·rw [cmpR_some (b:=decide (cmpL (runesOf (strL s)) (runesOf (strL t)) ≠ 0)) rfl]
  generalize cmpL (runesOf (strL s)) (runesOf (strL t)) = v at *
  obtain ⟨R,hR⟩:∃ R,decide (v ≠ 0) = R:=⟨_,rfl⟩
  rw [hR]
  have t1:((v:Int) != 0) = R:=by rw [← hR];by_cases h:v = 0 <;> simp [h]
  clear hR
  go_enter Tryz.func94,Tryz.ntmps94
  go_wp2_with fail
  (with_reducible refine (HC.out _).mono ?_)
  rintro e w1 ⟨rfl,hb⟩
  go_wp2_with fail
  go_ret2
  exact ⟨rfl,hb⟩
 ·rw [cmpR_some (b:=standsL (runesOf (strL s)) (runesOf (strL t)) 0) rfl]
  generalize standsL (runesOf (strL s)) (runesOf (strL t)) 0 = v at *
  go_enter Tryz.func94,Tryz.ntmps94
  go_wp2_with fail
  (with_reducible refine (HBG.out _).mono ?_)
  rintro e w1 ⟨rfl,hb⟩
  go_wp2_with fail
  go_ret2
  exact ⟨rfl,hb⟩
 ·rw [cmpR_some (b:=decide ((runesOf (strL t)).length ≤ (runesOf (strL s)).length) && standsL (runesOf (strL s)) (runesOf (strL t)) ((runesOf (strL s)).length - (runesOf (strL t)).length)) rfl]
  generalize (decide ((runesOf (strL t)).length ≤ (runesOf (strL s)).length) && standsL (runesOf (strL s)) (runesOf (strL t)) ((runesOf (strL s)).length - (runesOf (strL t)).length)) = v at *
  go_enter Tryz.func94,Tryz.ntmps94
  go_wp2_with fail
  (with_reducible refine (HEN.out _).mono ?_)
  rintro e w1 ⟨rfl,hb⟩
  go_wp2_with fail
  go_ret2
  exact ⟨rfl,hb⟩
 ·rw [cmpR_some (b:=decide (0 ≤ findL (runesOf (strL s)) (runesOf (strL t)))) rfl]
  generalize findL (runesOf (strL s)) (runesOf (strL t)) = v at *
  go_enter Tryz.func94,Tryz.ntmps94
  go_wp2_with fail
  (with_reducible refine (HFI.out _).mono ?_)
  rintro e w1 ⟨rfl,hb⟩
  go_wp2_with fail
  go_ret2
  exact ⟨rfl,hb⟩
 ·rw [cmpR_some (b:=decide (((runesOf (strL s)).length:Int) = n)) rfl]
  generalize ((runesOf (strL s)).length:Int) = v at *
  obtain ⟨R,hR⟩:∃ R,decide (v = n) = R:=⟨_,rfl⟩
  rw [hR]
  have t1:((v:Int) == n) = R:=by rw [← hR];rfl
  clear hR
  go_enter Tryz.func94,Tryz.ntmps94
  go_wp2_with fail
  (with_reducible refine (HLE.out _).mono ?_)
  rintro e w1 ⟨rfl,hb⟩
  go_wp2_with fail
  go_ret2
  exact ⟨rfl,hb⟩
 ·rw [cmpR_some (b:=decide (n < ((runesOf (strL s)).length:Int))) rfl]
  generalize ((runesOf (strL s)).length:Int) = v at *
  go_enter Tryz.func94,Tryz.ntmps94
  go_wp2_with fail
  (with_reducible refine (HLE.out _).mono ?_)
  rintro e w1 ⟨rfl,hb⟩
  go_wp2_with fail
  go_ret2
  exact ⟨rfl,hb⟩
 ·rw [cmpR_some (b:=decide (((runesOf (strL s)).length:Int) < n)) rfl]
  generalize ((runesOf (strL s)).length:Int) = v at *
  go_enter Tryz.func94,Tryz.ntmps94
  go_wp2_with fail
  (with_reducible refine (HLE.out _).mono ?_)
  rintro e w1 ⟨rfl,hb⟩
  go_wp2_with fail
  go_ret2
  exact ⟨rfl,hb⟩
end Go.Proofs.YtgjokdngbocehaaGreatDoor
namespace Go.Proofs.YtgjokdngbocehaaGreatDoor
open Go.RowKit
def hnL (h:HN) (A:Option Addr) (m c:Nat):List Value:=evL h.ev A m c ++ [.int .i64 h.kd,.int .i64 h.par,.bool h.op,.string (strL h.txt),.int .i64 h.bg,.int .i64 h.en]
theorem hnL_length (h:HN) (A:Option Addr) (m c:Nat):(hnL h A m c).length = 14:=rfl
theorem hnL_eq (h:HN) (A:Option Addr) (m c:Nat):hnL h A m c = [.int .i64 h.ev.kind,.int .i64 h.ev.num,.int .i64 h.ev.dep,.string (strL h.ev.name),.slice A m c,.string (strL h.ev.text),.int .i64 h.ev.fr,.int .i64 h.ev.tt,.int .i64 h.kd,.int .i64 h.par,.bool h.op,.string (strL h.txt),.int .i64 h.bg,.int .i64 h.en]:=rfl
theorem strL_cmpH (a b:List UInt8):((strL a).toList == (strL b).toList) = decide (a = b):=by
 by_cases h:a = b
 ·rw [decide_eq_true h];exact cmpU_eq h
 ·rw [decide_eq_false h];exact cmpU_ne h
def saidT (never always:Bool):Int:=if always then 2 else if never then 0 else 1
set_option maxRecDepth 100000 in
set_option maxHeartbeats 1000000 in
theorem hsaid_any (a b:Bool) (w:World):Calls Tryz.prog 123 #[.bool a,.bool b] w fun e w'=>e = .returned (.int .i64 (saidT a b)) ∧ w' = w:=by
 cases b with
 | true =>
  go_enter Tryz.func123,Tryz.ntmps123
  go_wp2_with fail
  go_ret
  exact ⟨rfl,rfl⟩
 | false =>
  cases a with
  | true =>
   go_enter Tryz.func123,Tryz.ntmps123
   go_wp2_with fail
   go_ret
   exact ⟨rfl,rfl⟩
  | false =>
   go_enter Tryz.func123,Tryz.ntmps123
   go_wp2_with fail
   go_ret
   exact ⟨rfl,rfl⟩
theorem earlyT_eq (v:List UInt8) (x:PX):earlyT v x = (if x.cmp = 0 then 2 else if x.cmp = 1 then saidT (!standsL (runesOf (strL x.text)) (runesOf (strL v)) 0) false else if x.cmp = 2 then saidT false (!standsL (runesOf (strL x.text)) (runesOf (strL v)) 0) else if x.cmp = 3 then saidT (!standsL (runesOf (strL x.text)) (runesOf (strL v)) 0) (standsL (runesOf (strL v)) (runesOf (strL x.text)) 0) else if x.cmp = 5 then saidT false (decide (0 ≤ findL (runesOf (strL v)) (runesOf (strL x.text)))) else if x.cmp = 6 then saidT (decide (x.num < ((runesOf (strL v)).length:Int))) false else if x.cmp = 7 then saidT false (decide (x.num < ((runesOf (strL v)).length:Int))) else if x.cmp = 8 then saidT (decide (x.num ≤ ((runesOf (strL v)).length:Int))) false else 1):=by
 unfold earlyT saidT
 simp only
 repeat' split
 all_goals first | rfl | (exfalso;simp_all;done) | (exfalso;simp_all;omega)
set_option maxRecDepth 100000 in
set_option maxHeartbeats 4000000 in
theorem hearly_any (h:HN) (A:Option Addr) (m c:Nat) (x:PX) (aa:Option Addr) (ac:Nat) (pa:Option Addr) (pc:Nat) (w:World) (h1:h.txt.length ≤ 1048576) (h2:x.text.length ≤ 1048576) :
  Calls Tryz.prog 95 #[.agg (hnL h A m c).toArray,.agg (exprC x aa ac pa pc).toArray] w fun e w'=>e = .returned (.int .i64 (earlyT h.txt x)) ∧ Below w.heap.size w w':=by
 have hs':(strL h.txt).size ≤ 1048576:=by rw [strL_size];exact h1
 have ht':(strL x.text).size ≤ 1048576:=by rw [strL_size];exact h2
 rw [hnL_eq,earlyT_eq]
 unfold exprC
 have HB0:Hid (∀ W,Below (w.heap.size + 2) ((w.alloc (.cells #[.int .i64 h.ev.kind,.int .i64 h.ev.num,.int .i64 h.ev.dep,.string (strL h.ev.name),.slice A m c,.string (strL h.ev.text),.int .i64 h.ev.fr,.int .i64 h.ev.tt,.int .i64 h.kd,.int .i64 h.par,.bool h.op,.string (strL h.txt),.int .i64 h.bg,.int .i64 h.en] 99)).alloc (.cells #[.int .i64 x.op,.slice aa x.args.length ac,.slice pa x.path.length pc,.string (strL x.attr),.int .i64 x.cmp,.string (strL x.text),.int .i64 x.num] 42)) W → Below w.heap.size w W ∧ W.cell? ⟨w.heap.size,11,none⟩ = some (.string (strL h.txt)) ∧ W.cell? ⟨w.heap.size + 1,4,none⟩ = some (.int .i64 x.cmp) ∧ W.cell? ⟨w.heap.size + 1,5,none⟩ = some (.string (strL x.text)) ∧ W.cell? ⟨w.heap.size + 1,6,none⟩ = some (.int .i64 x.num) ∧ w.heap.size + 2 ≤ W.heap.size):=Lib.hid fun W hW=>by
  have hb0:=((Below.refl w.heap.size w).alloc (Nat.le_refl _) (.cells #[.int .i64 h.ev.kind,.int .i64 h.ev.num,.int .i64 h.ev.dep,.string (strL h.ev.name),.slice A m c,.string (strL h.ev.text),.int .i64 h.ev.fr,.int .i64 h.ev.tt,.int .i64 h.kd,.int .i64 h.par,.bool h.op,.string (strL h.txt),.int .i64 h.bg,.int .i64 h.en] 99)).alloc (by simp) (.cells #[.int .i64 x.op,.slice aa x.args.length ac,.slice pa x.path.length pc,.string (strL x.attr),.int .i64 x.cmp,.string (strL x.text),.int .i64 x.num] 42)
  have kn:=heap_alloc_new (w.alloc (.cells #[.int .i64 h.ev.kind,.int .i64 h.ev.num,.int .i64 h.ev.dep,.string (strL h.ev.name),.slice A m c,.string (strL h.ev.text),.int .i64 h.ev.fr,.int .i64 h.ev.tt,.int .i64 h.kd,.int .i64 h.par,.bool h.op,.string (strL h.txt),.int .i64 h.bg,.int .i64 h.en] 99)) (.cells #[.int .i64 x.op,.slice aa x.args.length ac,.slice pa x.path.length pc,.string (strL x.attr),.int .i64 x.cmp,.string (strL x.text),.int .i64 x.num] 42)
  rw [World.size_alloc] at kn
  have k0:=(Below.heap_alloc (w.alloc (.cells #[.int .i64 h.ev.kind,.int .i64 h.ev.num,.int .i64 h.ev.dep,.string (strL h.ev.name),.slice A m c,.string (strL h.ev.text),.int .i64 h.ev.fr,.int .i64 h.ev.tt,.int .i64 h.kd,.int .i64 h.par,.bool h.op,.string (strL h.txt),.int .i64 h.bg,.int .i64 h.en] 99)) (.cells #[.int .i64 x.op,.slice aa x.args.length ac,.slice pa x.path.length pc,.string (strL x.attr),.int .i64 x.cmp,.string (strL x.text),.int .i64 x.num] 42) w.heap.size (by simp)).trans (heap_alloc_new w _)
  have k:=fun j=>hW.cell (p:=⟨w.heap.size + 1,j,none⟩) (Nat.lt_succ_self _)
  refine ⟨hb0.trans (hW.mono (by omega)),(hW.cell (p:=⟨w.heap.size,11,none⟩) (by show w.heap.size < w.heap.size + 2;omega)).trans ?_,(k 4).trans ?_,(k 5).trans ?_,(k 6).trans ?_,?_⟩
  ·rw [cell_heap k0];rfl
  ·rw [cell_heap kn];rfl
  ·rw [cell_heap kn];rfl
  ·rw [cell_heap kn];rfl
  ·have:=hW.size;simp at this;omega
 have HS:Hid (((w.alloc (.cells #[.int .i64 h.ev.kind,.int .i64 h.ev.num,.int .i64 h.ev.dep,.string (strL h.ev.name),.slice A m c,.string (strL h.ev.text),.int .i64 h.ev.fr,.int .i64 h.ev.tt,.int .i64 h.kd,.int .i64 h.par,.bool h.op,.string (strL h.txt),.int .i64 h.bg,.int .i64 h.en] 99)).alloc (.cells #[.int .i64 x.op,.slice aa x.args.length ac,.slice pa x.path.length pc,.string (strL x.attr),.int .i64 x.cmp,.string (strL x.text),.int .i64 x.num] 42)).heap.size = w.heap.size + 2):=Lib.hid (by simp)
 have HBS:=Lib.hid fun W=>Begins_any (strL x.text) (strL h.txt) W ht' hs'
 have HBG:=Lib.hid fun W=>Begins_any (strL h.txt) (strL x.text) W hs' ht'
 have HFI:=Lib.hid fun W=>Find_any (strL h.txt) (strL x.text) W hs' ht'
 have HLE:=Lib.hid fun W=>Length_any (strL h.txt) W hs'
 have HSD:=Lib.hid hsaid_any
 clear h1 h2 hs' ht'
 generalize standsL (runesOf (strL x.text)) (runesOf (strL h.txt)) 0 = vs at *
 generalize standsL (runesOf (strL h.txt)) (runesOf (strL x.text)) 0 = vb at *
 generalize findL (runesOf (strL h.txt)) (runesOf (strL x.text)) = vf at *
 generalize ((runesOf (strL h.txt)).length:Int) = vl at *
 obtain ⟨R,hR⟩:∃ R,(if x.cmp = 0 then 2 else if x.cmp = 1 then saidT (!vs) false else if x.cmp = 2 then saidT false (!vs) else if x.cmp = 3 then saidT (!vs) vb else if x.cmp = 5 then saidT false (decide (0 ≤ vf)) else if x.cmp = 6 then saidT (decide (x.num < vl)) false else if x.cmp = 7 then saidT false (decide (x.num < vl)) else if x.cmp = 8 then saidT (decide (x.num ≤ vl)) false else 1:Int) = R:=⟨_,rfl⟩
 rw [hR]
 have HR:=Lib.hid hR
 clear hR
 generalize x.cmp = cm at *
 generalize x.num = nu at *
 generalize strL x.text = tx at *
 generalize strL h.txt = ht at *
 go_enter Tryz.func95,Tryz.ntmps95
 go_wp2_with fail
 (with_reducible refine (HBS.out _).mono ?_)
 rintro e w1 ⟨rfl,hb1⟩
 rw [HS.out] at hb1
 obtain ⟨_,c1,c2,c3,c4,_⟩:=HB0.out w1 hb1
 have HB1:=Lib.hid hb1
 clear hb1
 go_wp2_with fail
 (with_reducible refine (HLE.out _).mono ?_)
 rintro e w2 ⟨rfl,hb2⟩
 have hb2':=HB1.out.trans (hb2.mono (HB0.out w1 HB1.out).2.2.2.2.2)
 obtain ⟨_,d1,d2,d3,d4,_⟩:=HB0.out w2 hb2'
 have HB2:=Lib.hid hb2'
 clear hb2 hb2' c1 c2 c3 c4 HB1
 by_cases hc:cm = 0 ∨ cm = 1 ∨ cm = 2 ∨ cm = 3 ∨ cm = 5 ∨ cm = 6 ∨ cm = 7 ∨ cm = 8
 ·rcases hc with rfl | rfl | rfl | rfl | rfl | rfl | rfl | rfl
  ·go_wp2_with fail
   go_ret
   exact ⟨ret_int HR.out,(HB0.out w2 HB2.out).1⟩
  ·go_wp2_with fail
   (with_reducible refine (HSD.out _ _ _).mono ?_)
   rintro e w3 ⟨rfl,rfl⟩
   go_wp2_with fail
   go_ret
   exact ⟨ret_int HR.out,(HB0.out _ HB2.out).1⟩
  ·go_wp2_with fail
   (with_reducible refine (HSD.out _ _ _).mono ?_)
   rintro e w3 ⟨rfl,rfl⟩
   go_wp2_with fail
   go_ret
   exact ⟨ret_int HR.out,(HB0.out _ HB2.out).1⟩
  ·go_wp2_with fail
   (with_reducible refine (HBG.out _).mono ?_)
   rintro e w3 ⟨rfl,hb3⟩
   have HB3:=Lib.hid (HB2.out.trans (hb3.mono (HB0.out w2 HB2.out).2.2.2.2.2))
   clear hb3
   go_wp2_with fail
   (with_reducible refine (HSD.out _ _ _).mono ?_)
   rintro e w4 ⟨rfl,rfl⟩
   go_wp2_with fail
   go_ret
   exact ⟨ret_int HR.out,(HB0.out _ HB3.out).1⟩
  ·go_wp2_with fail
   (with_reducible refine (HFI.out _).mono ?_)
   rintro e w3 ⟨rfl,hb3⟩
   have HB3:=Lib.hid (HB2.out.trans (hb3.mono (HB0.out w2 HB2.out).2.2.2.2.2))
   clear hb3
   go_wp2_with fail
   (with_reducible refine (HSD.out _ _ _).mono ?_)
   rintro e w4 ⟨rfl,rfl⟩
   go_wp2_with fail
   go_ret
   exact ⟨ret_int HR.out,(HB0.out _ HB3.out).1⟩
  ·go_wp2_with fail
   (with_reducible refine (HSD.out _ _ _).mono ?_)
   rintro e w3 ⟨rfl,rfl⟩
   go_wp2_with fail
   go_ret
   exact ⟨ret_int HR.out,(HB0.out _ HB2.out).1⟩
  ·go_wp2_with fail
   (with_reducible refine (HSD.out _ _ _).mono ?_)
   rintro e w3 ⟨rfl,rfl⟩
   go_wp2_with fail
   go_ret
   exact ⟨ret_int HR.out,(HB0.out _ HB2.out).1⟩
  ·go_wp2_with fail
   (with_reducible refine (HSD.out _ _ _).mono ?_)
   rintro e w3 ⟨rfl,rfl⟩
   go_wp2_with fail
   go_ret
   exact ⟨ret_int HR.out,(HB0.out _ HB2.out).1⟩
 ·have t0:(cm == 0) = false:=by simp;omega
  have t1:(cm == 1) = false:=by simp;omega
  have t2:(cm == 2) = false:=by simp;omega
  have t3:(cm == 3) = false:=by simp;omega
  have t5:(cm == 5) = false:=by simp;omega
  have t6:(cm == 6) = false:=by simp;omega
  have t7:(cm == 7) = false:=by simp;omega
  have t8:(cm == 8) = false:=by simp;omega
  have HF:Hid ((1:Int) = R):=Lib.hid (by
   have:=HR.out
   rw [if_neg (by omega),if_neg (by omega),if_neg (by omega),if_neg (by omega),if_neg (by omega),if_neg (by omega),if_neg (by omega),if_neg (by omega)] at this
   exact this)
  clear hc
  go_wp2_with fail
  go_ret
  exact ⟨ret_int HF.out,(HB0.out _ HB2.out).1⟩
set_option maxRecDepth 100000 in
set_option maxHeartbeats 4000000 in
theorem htest_any (h:HN) (A:Option Addr) (m c:Nat) (s:PS) (wa:Option Addr) (wc:Nat) (w:World) :
  Calls Tryz.prog 84 #[.agg (hnL h A m c).toArray,.agg (stepC s wa wc).toArray] w fun e w'=>e = .returned (.int .i64 (testT h s)) ∧ Below w.heap.size w w':=by
 rw [hnL_eq]
 unfold stepC
 have HTR:=Lib.hid truth_any
 have HB0:Hid (∀ o q,Below w.heap.size w ((w.alloc o).alloc q)):=Lib.hid fun o q=>((Below.refl w.heap.size w).alloc (Nat.le_refl _) o).alloc (by simp) q
 have hcmp:((strL h.ev.name).toList == (strL s.name).toList) = decide (h.ev.name = s.name):=strL_cmpH _ _
 obtain ⟨R,hR⟩:∃ R,testT h s = R:=⟨_,rfl⟩
 rw [hR]
 unfold testT at hR
 have HR:=Lib.hid hR
 clear hR
 by_cases h0:s.test = 0
 ·by_cases hk:h.kd = 1
  ·have HF:Hid (truthI (decide (h.ev.name = s.name)) = R):=Lib.hid (by have:=HR.out;rw [if_pos h0,hk] at this;simpa using this)
   clear HR
   generalize decide (h.ev.name = s.name) = d at *
   generalize s.test = st at *
   generalize h.kd = kd at *
   subst h0 hk
   go_enter Tryz.func84,Tryz.ntmps84
   go_wp2_with fail
   (with_reducible refine (HTR.out _ _).mono ?_)
   rintro e w1 ⟨rfl,rfl⟩
   go_wp2_with fail
   go_ret
   exact ⟨ret_int HF.out,HB0.out _ _⟩
  ·have HF:Hid (truthI false = R):=Lib.hid (by have:=HR.out;rw [if_pos h0,decide_eq_false hk,Bool.false_and] at this;exact this)
   have t1:((h.kd:Int) == 1) = false:=by simpa using hk
   clear HR hcmp hk
   generalize s.test = st at *
   generalize h.kd = kd at *
   subst h0
   go_enter Tryz.func84,Tryz.ntmps84
   go_wp2_with fail
   (with_reducible refine (HTR.out _ _).mono ?_)
   rintro e w1 ⟨rfl,rfl⟩
   go_wp2_with fail
   go_ret
   exact ⟨ret_int HF.out,HB0.out _ _⟩
 clear hcmp
 by_cases h1:s.test = 1
 ·have HF:Hid (truthI (decide (h.kd = 1)) = R):=Lib.hid (by have:=HR.out;rw [if_neg h0,if_pos h1] at this;exact this)
  clear HR h0
  generalize hd:decide (h.kd = 1) = d at *
  have t1:((h.kd:Int) == 1) = d:=by rw [← hd];rfl
  clear hd
  generalize s.test = st at *
  subst h1
  go_enter Tryz.func84,Tryz.ntmps84
  go_wp2_with fail
  (with_reducible refine (HTR.out _ _).mono ?_)
  rintro e w1 ⟨rfl,rfl⟩
  go_wp2_with fail
  go_ret
  exact ⟨ret_int HF.out,HB0.out _ _⟩
 by_cases h2:s.test = 2
 ·have HF:Hid (truthI (decide (h.kd = 2)) = R):=Lib.hid (by have:=HR.out;rw [if_neg h0,if_neg h1,if_pos h2] at this;exact this)
  clear HR h0 h1
  generalize hd:decide (h.kd = 2) = d at *
  have t1:((h.kd:Int) == 2) = d:=by rw [← hd];rfl
  clear hd
  generalize s.test = st at *
  subst h2
  go_enter Tryz.func84,Tryz.ntmps84
  go_wp2_with fail
  (with_reducible refine (HTR.out _ _).mono ?_)
  rintro e w1 ⟨rfl,rfl⟩
  go_wp2_with fail
  go_ret
  exact ⟨ret_int HF.out,HB0.out _ _⟩
 have HF:Hid ((2:Int) = R):=Lib.hid (by have:=HR.out;rw [if_neg h0,if_neg h1,if_neg h2] at this;exact this)
 have t0:((s.test:Int) == 0) = false:=by simpa using h0
 have t1:((s.test:Int) == 1) = false:=by simpa using h1
 have t2:((s.test:Int) == 2) = false:=by simpa using h2
 clear HR h0 h1 h2
 generalize s.test = st at *
 go_enter Tryz.func84,Tryz.ntmps84
 go_wp2_with fail
 go_ret
 exact ⟨ret_int HF.out,HB0.out _ _⟩
end Go.Proofs.YtgjokdngbocehaaGreatDoor
