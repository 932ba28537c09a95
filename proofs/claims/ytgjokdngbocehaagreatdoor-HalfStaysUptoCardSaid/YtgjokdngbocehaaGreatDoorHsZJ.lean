/-
  Event by event nothing known or told is taken back; plain Lean.
-/
import Derived.Test.YtgjokdngbocehaaGreatDoorHsA
import Derived.Test.YtgjokdngbocehaaGreatDoorHsD
import Derived.Test.YtgjokdngbocehaaGreatDoorHsE
import Derived.Test.YtgjokdngbocehaaGreatDoorHsL
import Derived.Test.YtgjokdngbocehaaGreatDoorHsN
import Derived.Test.YtgjokdngbocehaaGreatDoorHsV
import Derived.Test.YtgjokdngbocehaaGreatDoorHsY
import Derived.Test.YtgjokdngbocehaaGreatDoorHsZE
import Derived.Test.YtgjokdngbocehaaGreatDoorHsZF
import Derived.Test.YtgjokdngbocehaaGreatDoorHsZG
import Derived.Test.YtgjokdngbocehaaGreatDoorHsZI
namespace Go.Proofs.YtgjokdngbocehaaGreatDoor
open Go.RowKit
theorem vdT_mem {L:List Int} {n:Nat} {v:Int × Int}:v ∈ vdT L n ↔ ∃ i:Nat,i < n ∧ 0 < i ∧ L.getD i 0 ≠ 0 ∧ v = ((i:Int) - 1,L.getD i 0):=by
 unfold vdT
 rw [List.mem_filterMap]
 constructor
 ·rintro ⟨i,hi,h⟩
  split at h
  ·rename_i hh
   exact ⟨i,List.mem_range.1 hi,hh.1,hh.2,(Option.some.inj h).symm⟩
  ·cases h
 ·rintro ⟨i,h1,h2,h3,rfl⟩
  exact ⟨i,List.mem_range.2 h1,if_pos ⟨h2,h3⟩⟩
theorem vdT_ris (L:List Int) (n:Nat):(vdT L n).Pairwise (fun a b=>a.1 < b.1):=by
 unfold vdT
 rw [List.pairwise_filterMap]
 refine List.pairwise_lt_range.imp fun hab u hu v hv=>?_
 split at hu
 ·split at hv
  ·cases hu;cases hv;simp only;omega
  ·cases hv
 ·cases hu
theorem vdT_more (L:List Int) (n d:Nat):∃ r,vdT L (n + d) = vdT L n ++ r:=by
 unfold vdT
 rw [List.range_add,List.filterMap_append]
 exact ⟨_,rfl⟩
theorem tw_vdT (hs:List HN) (L:List Int) (n:Nat):∃ b,b ≤ n ∧ (∀ v ∈ vdT L b,okV hs v = true) ∧ (vdT L n).takeWhile (okV hs) = vdT L b:=by
 induction n with
 | zero=>exact ⟨0,Nat.le_refl _,fun v hv=>(by cases hv),rfl⟩
 | succ n ih =>
  obtain ⟨b,h1,h2,h3⟩:=ih
  by_cases hall:∀ v ∈ vdT L n,okV hs v = true
  ·by_cases hn:0 < n ∧ L.getD n 0 ≠ 0
   ·rw [vdT_yes L n hn.1 hn.2]
    cases hx:okV hs ((n:Int) - 1,L.getD n 0) with
    | true =>
     refine ⟨n + 1,Nat.le_refl _,?_,?_⟩
     ·rw [vdT_yes L n hn.1 hn.2]
      intro v hv
      rcases List.mem_append.1 hv with hv | hv
      ·exact hall v hv
      ·rw [List.mem_singleton.1 hv];exact hx
     ·rw [vdT_yes L n hn.1 hn.2]
      refine takeWhile_all _ _ fun v hv=>?_
      rcases List.mem_append.1 hv with hv | hv
      ·exact hall v hv
      ·rw [List.mem_singleton.1 hv];exact hx
    | false =>
     refine ⟨n,by omega,hall,?_⟩
     rw [List.takeWhile_append_of_pos hall,List.takeWhile_cons_of_neg (by rw [hx];decide),List.append_nil]
   ·rw [vdT_no L n hn]
    exact ⟨n,by omega,hall,takeWhile_all _ _ hall⟩
  ·refine ⟨b,by omega,h2,?_⟩
   by_cases hn:0 < n ∧ L.getD n 0 ≠ 0
   ·rw [vdT_yes L n hn.1 hn.2,← h3]
    have:∀ (l m:List (Int × Int)),(¬ ∀ v ∈ l,okV hs v = true) → (l ++ m).takeWhile (okV hs) = l.takeWhile (okV hs):=by
     intro l
     induction l with
     | nil=>intro m h;exact absurd (fun v hv=>by cases hv) h
     | cons x l ihl =>
      intro m h
      rw [List.cons_append,List.takeWhile_cons,List.takeWhile_cons]
      cases hx:okV hs x with
      | false=>rfl
      | true =>
       simp only [if_true]
       rw [ihl m fun hl=>h fun v hv=>by
        rcases List.mem_cons.1 hv with rfl | hv
        ·exact hx
        ·exact hl v hv]
    exact this _ _ hall
   ·rw [vdT_no L n hn];exact h3
section
variable {hs hs':List HN} {rs rs':List RN} {L L':List Int}
theorem stay_true (hN:hs.length ≤ hs'.length) (hK:∀ k,k < hs.length → Kn (L.getD k 0) (L'.getD k 0)):∀ v ∈ vdT L hs.length,v.2 = 2 → (v.1,2) ∈ vdT L' hs'.length:=fun v hv h2=>by
 obtain ⟨i,h1,h3,h4,rfl⟩:=vdT_mem.1 hv
 simp only at h2
 have hk:=hK i h1
 rw [h2] at hk
 have e:L'.getD i 0 = 2:=by unfold Kn at hk;omega
 exact vdT_mem.2 ⟨i,by omega,h3,by rw [e];decide,by rw [e]⟩
theorem stay_false (hK:∀ k,k < hs.length → Kn (L.getD k 0) (L'.getD k 0)):∀ v ∈ vdT L' hs'.length,v.1 < (hs.length:Int) - 1 → ∃ u ∈ vdT L hs.length,u.1 = v.1:=fun v hv h2=>by
 obtain ⟨i,h1,h3,h4,rfl⟩:=vdT_mem.1 hv
 simp only at h2
 have hi:i < hs.length:=by omega
 have hk:=hK i hi
 have e:L.getD i 0 ≠ 0:=by unfold Kn at hk;omega
 exact ⟨_,vdT_mem.2 ⟨i,hi,h3,e,rfl⟩,rfl⟩
theorem same_vdT (hK:∀ k,k < hs.length → Kn (L.getD k 0) (L'.getD k 0)):∀ b,b ≤ hs.length → (∀ v ∈ vdT L b,okV hs v = true) → vdT L' b = vdT L b:=by
 intro b
 induction b with
 | zero=>intro _ _;rfl
 | succ b ih =>
  intro hb hall
  have hk:=hK b (by omega)
  by_cases hn:0 < b ∧ L.getD b 0 ≠ 0
  ·have hy:=vdT_yes L b hn.1 hn.2
   have hx:=hall ((b:Int) - 1,L.getD b 0) (by rw [hy];exact List.mem_append_right _ (List.mem_singleton.2 rfl))
   unfold okV at hx
   simp only [Bool.and_eq_true,decide_eq_true_eq] at hx
   have e:L'.getD b 0 = L.getD b 0:=by unfold Kn at hk;omega
   rw [hy,vdT_yes L' b hn.1 (by rw [e];exact hn.2),e,ih (by omega) fun v hv=>hall v (by rw [hy];exact List.mem_append_left _ hv)]
  ·have hno:=vdT_no L b hn
   rw [hno,vdT_no L' b (fun hh=>hn ⟨hh.1,fun h0=>by unfold Kn at hk;omega⟩),ih (by omega) fun v hv=>hall v (by rw [hno];exact hv)]
theorem stay_told (h:Gr hs hs' rs rs') {evs evs':List Ev} (hK:∀ k,k < hs.length → Kn (L.getD k 0) (L'.getD k 0)) (hpre:evs <+: evs') (hsp:∀ (i:Nat) (y:HN),hs[i + 1]? = some y → y.op = false → y.en ≤ evs.length):toldL evs hs (vdT L hs.length) <+: toldL evs' hs' (vdT L' hs'.length):=by
 obtain ⟨b,hb,hall,htw⟩:=tw_vdT hs L hs.length
 have hsame:=same_vdT hK b hb hall
 have hN:=h.len
 obtain ⟨d,hd⟩:∃ d,hs'.length = b + d:=⟨hs'.length - b,by omega⟩
 obtain ⟨r,hr⟩:=vdT_more L' b d
 rw [← hd] at hr
 have hat:∀ v ∈ vdT L b,okV hs' v = true ∧ itemV evs' hs' v = itemV evs hs v:=fun v hv=>by
  have hok:=hall v hv
  obtain ⟨i,h1,h3,h4,rfl⟩:=vdT_mem.1 hv
  obtain ⟨j,rfl⟩:∃ j,i = j + 1:=⟨i - 1,by omega⟩
  have e1:(((j + 1:Nat):Int) - 1 + 1).toNat = j + 1:=by omega
  have hjl:j + 1 < hs.length:=by omega
  obtain ⟨y,hy⟩:∃ y,hs[j + 1]? = some y:=⟨_,List.getElem?_eq_getElem hjl⟩
  obtain ⟨y',g1,_,_,_,g5,_,g7⟩:=h.same _ y hy
  unfold okV at hok ⊢
  simp only [e1,hy,g1,Option.map_some,Option.getD_some,Bool.and_eq_true,decide_eq_true_eq] at hok ⊢
  have hop:y.op = false:=by simpa using hok.2
  obtain ⟨k1,_,k3⟩:=g5 hop
  refine ⟨⟨hok.1,by rw [k1];rfl⟩,?_⟩
  unfold itemV
  simp only [e1,hy,g1,Option.map_some,Option.getD_some]
  rw [k3,g7 (by omega)]
  have hen:=hsp j y hy hop
  obtain ⟨t,ht⟩:=hpre
  rw [← ht,List.take_append_of_le_length hen]
 have e2:toldL evs hs (vdT L hs.length) = (vdT L b).map (itemV evs hs):=by unfold toldL;rw [htw]
 have e3:toldL evs' hs' (vdT L' hs'.length) = (vdT L b).map (itemV evs hs) ++ (r.takeWhile (okV hs')).map (itemV evs' hs'):=by
  unfold toldL
  rw [hr,hsame,List.takeWhile_append_of_pos fun v hv=>(hat v hv).1,List.map_append]
  congr 1
  exact List.map_congr_left fun v hv=>(hat v hv).2
 rw [e2,e3]
 exact List.prefix_append _ _
end
end Go.Proofs.YtgjokdngbocehaaGreatDoor
namespace Go.Proofs.YtgjokdngbocehaaGreatDoor
open Go.RowKit
def VF (w:World) (A:Option Addr) (n:Nat) (f g:Nat → Int):Prop:=∀ i,i < n → ∃ b o,A = some ⟨b,o,none⟩ ∧ b < w.heap.size ∧ w.cell? ⟨b,o + i * 2,none⟩ = some (.int .i64 (f i)) ∧ w.cell? ⟨b,o + i * 2 + 1,none⟩ = some (.int .i64 (g i))
theorem VF.below {w w':World} {A:Option Addr} {n:Nat} {f g:Nat → Int} (h:VF w A n f g) (hb:Below w.heap.size w w'):VF w' A n f g:=fun i hi=>by
 obtain ⟨b,o,e,hl,h1,h2⟩:=h i hi
 exact ⟨b,o,e,Nat.lt_of_lt_of_le hl hb.size,(hb.cell (p:=⟨b,o + i * 2,none⟩) hl).trans h1,(hb.cell (p:=⟨b,o + i * 2 + 1,none⟩) hl).trans h2⟩
def GInv (n m:Nat) (nl ng:Nat → Int) (i k:Nat):Prop:=(∀ j,j < i → ∀ q,k ≤ q → q < m → nl j < ng q) ∧ ∀ j,i ≤ j → j < n → ∀ q,q < k → ng q < nl j
set_option maxRecDepth 100000 in
set_option maxHeartbeats 8000000 in
theorem goesOn_any (A B:Option Addr) (n m ca cb:Nat) (nl tl ng tg:Nat → Int) (fr:Int) (w:World) (hA:VF w A n nl tl) (hB:VF w B m ng tg) (hn:n ≤ 1048576) (hm:m ≤ 1048576)
  (h1:∀ i,i < n → tl i = 2 → ∃ q,q < m ∧ ng q = nl i ∧ tg q = 2) (h2:∀ q,q < m → ng q < fr → ∃ i,i < n ∧ nl i = ng q) (h3:∀ i j,i < j → j < n → nl i < nl j) (h4:∀ i j,i < j → j < m → ng i < ng j) :
  Calls Tryz.prog 23 #[.slice A n ca,.slice B m cb,.int .i64 fr] w fun e w'=>e = .returned (.bool true) ∧ Below w.heap.size w w':=by
 have HA:=Lib.hid hA
 have HB:=Lib.hid hB
 have S0:Hid (GInv n m nl ng 0 0):=Lib.hid ⟨fun j hj=>by omega,fun j _ _ q hq=>by omega⟩
 have SP:Hid (∀ i k,i < n → k < m → GInv n m nl ng i k → nl i < ng k → tl i ≠ 2 ∧ GInv n m nl ng (i + 1) k):=Lib.hid fun i k hi hk hg hlt=>by
  constructor
  ·intro h
   obtain ⟨q,q1,q2,_⟩:=h1 i hi h
   by_cases hqk:q < k
   ·have:=hg.2 i (Nat.le_refl _) hi q hqk;omega
   ·by_cases e:q = k
    ·subst e;omega
    ·have:=h4 k q (by omega) q1;omega
  ·refine ⟨fun j hj q hq hqm=>?_,fun j hj hjn q hq=>hg.2 j (by omega) hjn q hq⟩
   by_cases e:j = i
   ·subst e
    by_cases e2:q = k
    ·rw [e2];exact hlt
    ·have:=h4 k q (by omega) hqm;omega
   ·exact hg.1 j (by omega) q hq hqm
 have SE:Hid (∀ i k,i < n → k < m → GInv n m nl ng i k → nl i = ng k → (tl i = 2 → tg k = 2) ∧ GInv n m nl ng (i + 1) (k + 1)):=Lib.hid fun i k hi hk hg he=>by
  constructor
  ·intro h
   obtain ⟨q,q1,q2,q3⟩:=h1 i hi h
   by_cases e:q = k
   ·rw [← e];exact q3
   ·by_cases hqk:q < k
    ·have:=h4 q k hqk hk;omega
    ·have:=h4 k q (by omega) q1;omega
  ·refine ⟨fun j hj q hq hqm=>?_,fun j hj hjn q hq=>?_⟩
   ·have:=h4 k q (by omega) hqm
    by_cases e:j = i
    ·subst e;omega
    ·have:=h3 j i (by omega) hi;omega
   ·have h5:=h3 i j (by omega) hjn
    by_cases e:q = k
    ·rw [e];omega
    ·have:=h4 q k (by omega) hk;omega
 have SN:Hid (∀ i k,i ≤ n → k < m → GInv n m nl ng i k → (i < n → ng k < nl i) → fr ≤ ng k ∧ GInv n m nl ng i (k + 1)):=Lib.hid fun i k hi hk hg hlt=>by
  constructor
  ·by_cases hf:fr ≤ ng k
   ·exact hf
   ·obtain ⟨j,j1,j2⟩:=h2 k hk (by omega)
    by_cases hji:j < i
    ·have:=hg.1 j hji k (Nat.le_refl _) hk;omega
    ·have h5:=hlt (by omega)
     by_cases e:j = i
     ·subst e;omega
     ·have:=h3 i j (by omega) j1;omega
  ·refine ⟨fun j hj q hq hqm=>hg.1 j hj q (by omega) hqm,fun j hj hjn q hq=>?_⟩
   by_cases e:q = k
   ·have h5:=hlt (by omega)
    rw [e]
    by_cases e2:j = i
    ·subst e2;exact h5
    ·have:=h3 i j (by omega) hjn;omega
   ·exact hg.2 j hj hjn q (by omega)
 have SF:Hid (∀ i,i < n → GInv n m nl ng i m → tl i ≠ 2 ∧ GInv n m nl ng (i + 1) m):=Lib.hid fun i hi hg=>by
  constructor
  ·intro h
   obtain ⟨q,q1,q2,_⟩:=h1 i hi h
   have:=hg.2 i (Nat.le_refl _) hi q q1
   omega
  ·exact ⟨fun j _ q hq hqm=>by omega,fun j hj hjn q hq=>hg.2 j (by omega) hjn q hq⟩
 clear hA hB h1 h2 h3 h4
 go_enter Tryz.func23,Tryz.ntmps23
 go_wp2_with fail
 go_loopw [7,8] (fun iv kv wr=>∃ i k:Nat,iv = .int .i64 i ∧ kv = .int .i64 k ∧ i ≤ n ∧ k ≤ m ∧ Hid (GInv n m nl ng i k) ∧ Hid (Below w.heap.size w wr)) (fun _ kv _=>m - (intOf kv).toNat)
 case atStart=>exact ⟨0,0,rfl,rfl,Nat.zero_le _,Nat.zero_le _,S0,Lib.hid (Below.refl _ _)⟩
 case round =>
  obtain ⟨i,k,rfl,rfl,hi,hk,HG,HW⟩:=hrel
  by_cases hkm:k < m
  ·have i1:(0:Int) ≤ (k:Int):=by omega
   have i2:(k:Int) < (m:Int):=by omega
   have ewk:IntKind.i64.wrap ((k:Int) + 1) = (k:Int) + 1:=IntWalk.i64_in _ (by omega)
   go_wp2_with fail
   go_loopw [7] (fun iv wr=>∃ i:Nat,iv = .int .i64 i ∧ i ≤ n ∧ Hid (GInv n m nl ng i k) ∧ Hid (Below w.heap.size w wr)) (fun iv _=>n - (intOf iv).toNat)
   case atStart=>exact ⟨i,rfl,hi,HG,HW⟩
   case round =>
    clear HG HW hi
    obtain ⟨i',rfl,hi,HG,HW⟩:=hrel
    obtain ⟨bb,ob,rfl,_,y0,y1⟩:=HB.out.below HW.out k hkm
    by_cases hin:i' < n
    ·obtain ⟨ba,oa,rfl,_,x0,x1⟩:=HA.out.below HW.out i' hin
     have j1:(0:Int) ≤ (i':Int):=by omega
     have j2:(i':Int) < (n:Int):=by omega
     have ewi:IntKind.i64.wrap ((i':Int) + 1) = (i':Int) + 1:=IntWalk.i64_in _ (by omega)
     by_cases hlt:nl i' < ng k
     ·obtain ⟨s1,s2⟩:=SP.out i' k hin hkm HG.out hlt
      have HS2:=Lib.hid s2
      have t1:((tl i':Int) == 2) = false:=by simpa using s1
      clear s1 s2
      generalize nl i' = u1 at *
      generalize tl i' = u2 at *
      generalize ng k = u3 at *
      go_wp2_with fail
      go_quiet (fail)
      go_wp2_with fail
      go_roundw
      case rel=>exact ⟨i' + 1,by go_num,by omega,HS2,Lib.hid (Below.drewN HW.out _)⟩
      case measure=>simp [intOf];omega
     ·by_cases heq:nl i' = ng k
      ·obtain ⟨s1,s2⟩:=SE.out i' k hin hkm HG.out heq
       have HS2:=Lib.hid s2
       have HS1:=Lib.hid s1
       rw [← heq] at y0
       clear s1 s2
       have k1:¬ (nl i' < nl i'):=by omega
       have k2:(nl i':Int) ≤ nl i':=by omega
       clear hlt heq
       generalize nl i' = u1 at *
       generalize tl i' = u2 at *
       generalize tg k = u4 at *
       by_cases hu2:u2 = 2
       ·have hu4:u4 = 2:=HS1.out hu2
        subst hu2 hu4
        go_wp2_with fail
        go_quiet (fail)
        go_wp2_with fail
        go_quiet (fail)
        go_wp2_with fail
        go_roundw
        case rel=>exact ⟨i' + 1,k + 1,by go_num,by go_num,by omega,by omega,HS2,Lib.hid (Below.drewN HW.out _)⟩
        case measure=>simp [intOf];omega
       ·have t1:((u2:Int) == 2) = false:=by simpa using hu2
        clear hu2
        go_wp2_with fail
        go_quiet (fail)
        go_wp2_with fail
        go_quiet (fail)
        go_wp2_with fail
        go_roundw
        case rel=>exact ⟨i' + 1,k + 1,by go_num,by go_num,by omega,by omega,HS2,Lib.hid (Below.drewN HW.out _)⟩
        case measure=>simp [intOf];omega
      ·obtain ⟨s1,s2⟩:=SN.out i' k hi hkm HG.out (fun _=>by omega)
       have HS2:=Lib.hid s2
       have k2:(ng k:Int) ≤ nl i':=by omega
       have t1:((nl i':Int) == ng k) = false:=by simpa using heq
       clear hlt heq s2
       generalize nl i' = u1 at *
       generalize ng k = u3 at *
       go_wp2_with fail
       go_quiet (fail)
       go_wp2_with fail
       go_quiet (fail)
       go_wp2_with fail
       go_roundw
       case rel=>exact ⟨i',k + 1,by first | rfl | go_num,by go_num,by omega,by omega,HS2,Lib.hid (Below.drewN HW.out _)⟩
       case measure=>simp [intOf];omega
    ·obtain ⟨s1,s2⟩:=SN.out i' k hi hkm HG.out (fun h=>absurd h hin)
     have HS2:=Lib.hid s2
     have j2:(n:Int) ≤ (i':Int):=by omega
     clear s2
     generalize ng k = u3 at *
     go_wp2_with fail
     go_quiet (fail)
     go_wp2_with fail
     go_quiet (fail)
     go_wp2_with fail
     go_roundw
     case rel=>exact ⟨i',k + 1,by first | rfl | go_num,by go_num,by omega,by omega,HS2,Lib.hid (Below.drewN HW.out _)⟩
     case measure=>simp [intOf];omega
  ·have hk2:k = m:=by omega
   subst hk2
   go_wp2_with fail
   go_loopw [7] (fun iv wr=>∃ i:Nat,iv = .int .i64 i ∧ i ≤ n ∧ Hid (GInv n k nl ng i k) ∧ Hid (Below w.heap.size w wr)) (fun iv _=>n - (intOf iv).toNat)
   case atStart=>exact ⟨i,rfl,hi,HG,HW⟩
   case round =>
    clear HG HW hi
    obtain ⟨i',rfl,hi,HG,HW⟩:=hrel
    by_cases hin:i' < n
    ·obtain ⟨ba,oa,rfl,_,x0,x1⟩:=HA.out.below HW.out i' hin
     have j1:(0:Int) ≤ (i':Int):=by omega
     have j2:(i':Int) < (n:Int):=by omega
     have ewi:IntKind.i64.wrap ((i':Int) + 1) = (i':Int) + 1:=IntWalk.i64_in _ (by omega)
     obtain ⟨s1,s2⟩:=SF.out i' hin HG.out
     have HS2:=Lib.hid s2
     have t1:((tl i':Int) == 2) = false:=by simpa using s1
     clear s1 s2
     generalize tl i' = u2 at *
     go_wp2_with fail
     go_roundw
     case rel=>exact ⟨i' + 1,by go_num,by omega,HS2,HW⟩
     case measure=>simp [intOf];omega
    ·have j2:(n:Int) ≤ (i':Int):=by omega
     go_wp2_with fail
     go_ret
     exact ⟨rfl,HW.out⟩
end Go.Proofs.YtgjokdngbocehaaGreatDoor
namespace Go.Proofs.YtgjokdngbocehaaGreatDoor
open Go.RowKit
def slotOfH (t:Array Value) (k:Nat):Value:=t.getD k undef
theorem readN_len {evs:List Ev} {st:BegS} (h:begAll beg0 evs = some st):((readN evs st).length:Int) = st.next + 1 ∧ 1 ≤ (readN evs st).length:=by
 have h1:=(beg_hok h).cnt
 have h2:=(beg_hok h).pos
 have h3:(readN evs st).length = (hAll evs.length evs evs.length).1.length:=List.length_modify _ _ _
 omega
end Go.Proofs.YtgjokdngbocehaaGreatDoor
namespace Go.Proofs.YtgjokdngbocehaaGreatDoor
open Go.RowKit
def VVk (f:Nat) (evs:List Ev) (ss:List PS) (k:Nat):List (Int × Int):=if k = 0 then [] else (verdN f (evs.take (k - 1)) ss).1
def TTk (f:Nat) (evs:List Ev) (ss:List PS) (k:Nat):List (Int × List UInt8):=if k = 0 then [] else (toldN f (evs.take (k - 1)) ss).1
theorem verdN_of {f:Nat} {evs:List Ev} {ss:List PS} {st:BegS} (hst:begAll beg0 evs = some st) (hc:checkN f ss = 0):verdN f evs ss = (vdT (pathT (exprT (readN evs st) f) (readN evs st) ss ss.length) (readN evs st).length,0):=by
 unfold verdN;rw [hst];simp only;rw [if_neg (by rw [hc];decide)]
theorem toldN_of {f:Nat} {evs:List Ev} {ss:List PS} {st:BegS} (hst:begAll beg0 evs = some st) (hc:checkN f ss = 0):toldN f evs ss = (toldL evs (readN evs st) (vdT (pathT (exprT (readN evs st) f) (readN evs st) ss ss.length) (readN evs st).length),0):=by
 unfold toldN
 rw [verdN_of hst hc,hst]
 simp only
 rw [if_neg (by decide)]
structure StayK (f:Nat) (evs:List Ev) (ss:List PS) (k:Nat):Prop where
 v0:(verdN f (evs.take k) ss).2 = 0
 t0:(toldN f (evs.take k) ss).2 = 0
 vl:(verdN f (evs.take k) ss).1.length ≤ k + 1
 tl:(toldN f (evs.take k) ss).1.length ≤ k + 1
 yes:∀ v ∈ VVk f evs ss k,v.2 = 2 → (v.1,2) ∈ (verdN f (evs.take k) ss).1
 no:∀ v ∈ (verdN f (evs.take k) ss).1,v.1 < (cntT evs (k - 1):Int) → ∃ u ∈ VVk f evs ss k,u.1 = v.1
 ris:(verdN f (evs.take k) ss).1.Pairwise (fun a b=>a.1 < b.1)
 ris':(VVk f evs ss k).Pairwise (fun a b=>a.1 < b.1)
 pre:TTk f evs ss k <+: (toldN f (evs.take k) ss).1
theorem cntT_take (evs:List Ev) (k:Nat):cntT (evs.take k) (evs.take k).length = cntT evs k:=by
 unfold cntT
 rw [List.take_length]
theorem stay_all {evs:List Ev} {st:BegS} (h:begAll beg0 evs = some st) {f:Nat} {ss:List PS} (hc:checkN f ss = 0) (hg:∀ s ∈ ss,goodSB (goodXB f) s = true) (k:Nat) (hk:k ≤ evs.length):StayK f evs ss k:=by
 obtain ⟨s,hs⟩:=begAll_take h k
 have hv:=verdN_of hs hc
 have ht:=toldN_of hs hc
 have hlen:(readN (evs.take k) s).length ≤ k + 1:=by
  have h1:=(beg_hok hs).len
  have h2:(readN (evs.take k) s).length = (hAll (evs.take k).length (evs.take k) (evs.take k).length).1.length:=List.length_modify _ _ _
  rw [h2]
  have:(evs.take k).length ≤ k:=by rw [List.length_take];exact Nat.min_le_left _ _
  omega
 have hvl:=vdT_le (pathT (exprT (readN (evs.take k) s) f) (readN (evs.take k) s) ss ss.length) (readN (evs.take k) s).length
 have htl:(toldL (evs.take k) (readN (evs.take k) s) (vdT (pathT (exprT (readN (evs.take k) s) f) (readN (evs.take k) s) ss ss.length) (readN (evs.take k) s).length)).length ≤ (vdT (pathT (exprT (readN (evs.take k) s) f) (readN (evs.take k) s) ss ss.length) (readN (evs.take k) s).length).length:=by
  unfold toldL
  rw [List.length_map]
  exact (List.takeWhile_sublist _).length_le
 have hris:(verdN f (evs.take k) ss).1.Pairwise (fun a b=>a.1 < b.1):=by rw [hv];exact vdT_ris _ _
 cases k with
 | zero =>
  have e1:VVk f evs ss 0 = []:=rfl
  have e2:TTk f evs ss 0 = []:=rfl
  refine ⟨by rw [hv],by rw [ht],by rw [hv];simp only;omega,by rw [ht];simp only;omega,fun v hv'=>(by rw [e1] at hv';cases hv'),fun v hv' hlt=>?_,hris,by rw [e1];exact List.Pairwise.nil,by rw [e2];exact List.nil_prefix⟩
  rw [hv] at hv'
  obtain ⟨i,h1,h3,_,rfl⟩:=vdT_mem.1 hv'
  have:cntT evs (0 - 1) = 0:=rfl
  rw [this] at hlt
  simp only at hlt
  omega
 | succ j =>
  have hjl:j < evs.length:=by omega
  obtain ⟨u,hu⟩:=begAll_take h j
  have etk:evs.take (j + 1) = evs.take j ++ [evs[j]]:=List.take_succ_eq_append_getElem hjl
  have hok:begOk u evs[j] = true ∧ begNext u evs[j] = s:=by
   have h2:=hs
   rw [etk,begAll_app,hu] at h2
   simp only [Option.bind_some,begAll] at h2
   split at h2
   ·rename_i hh;exact ⟨hh,Option.some.inj h2⟩
   ·cases h2
  have hgr:=gr_of hu hok.1
  rw [hok.2,← etk] at hgr
  have hvj:=verdN_of hu hc
  have htj:=toldN_of hu hc
  have e1:VVk f evs ss (j + 1) = (verdN f (evs.take j) ss).1:=rfl
  have e2:TTk f evs ss (j + 1) = (toldN f (evs.take j) ss).1:=rfl
  have hpos:1 ≤ (readN (evs.take j) u).length:=(readN_len hu).2
  have hK:=path_mono hgr hpos f ss hg ss.length (Nat.le_refl _)
  have hcnt:((readN (evs.take j) u).length:Int) = (cntT evs (j + 1 - 1):Int) + 1:=by
   have h1:=(readN_len hu).1
   have h2:=cnt_next hu
   have h3:=cntT_take evs j
   rw [h3] at h2
   rw [h1,h2];rfl
  refine ⟨by rw [hv],by rw [ht],by rw [hv];simp only;omega,by rw [ht];simp only;omega,?_,?_,hris,by rw [e1,hvj];exact vdT_ris _ _,?_⟩
  ·rw [e1,hvj,hv]
   exact stay_true hgr.len hK
  ·rw [e1,hvj,hv]
   intro v hv' hlt
   exact stay_false hK v hv' (by omega)
  ·rw [e2,htj,ht]
   refine stay_told hgr hK ?_ (fun i y hy ho=>(read_span hu rfl i y hy ho).2)
   rw [etk]
   exact List.prefix_append _ _
theorem vf_of {w:World} {A:Option Addr} {n:Nat} {l:List (Int × Int)} (h:VdAt w A n l):VF w A n (fun i=>(l.getD i (0,0)).1) (fun i=>(l.getD i (0,0)).2):=fun i hi=>by
 have hl:i < l.length:=by rw [← h.1];exact hi
 obtain ⟨b,o,e,h1,h2,h3⟩:=h.2 i hl
 have hg:l.getD i (0,0) = l[i]:=by rw [List.getD_eq_getElem?_getD,List.getElem?_eq_getElem hl];rfl
 exact ⟨b,o,e,h1,by dsimp only;rw [hg];exact h2,by dsimp only;rw [hg];exact h3⟩
theorem ris_fun {l:List (Int × Int)} (h:l.Pairwise (fun a b=>a.1 < b.1)):∀ i j,i < j → j < l.length → (l.getD i (0,0)).1 < (l.getD j (0,0)).1:=fun i j hij hj=>by
 have hg:∀ i,(hi:i < l.length) → l.getD i (0,0) = l[i]:=fun i hi=>by rw [List.getD_eq_getElem?_getD,List.getElem?_eq_getElem hi];rfl
 rw [hg i (by omega),hg j hj]
 exact List.pairwise_iff_getElem.1 h i j (by omega) hj hij
theorem yes_fun {l g:List (Int × Int)} (h:∀ v ∈ l,v.2 = 2 → (v.1,2) ∈ g):∀ i,i < l.length → (l.getD i (0,0)).2 = 2 → ∃ q,q < g.length ∧ (g.getD q (0,0)).1 = (l.getD i (0,0)).1 ∧ (g.getD q (0,0)).2 = 2:=fun i hi h2=>by
 have hg:l.getD i (0,0) = l[i]:=by rw [List.getD_eq_getElem?_getD,List.getElem?_eq_getElem hi];rfl
 rw [hg] at h2 ⊢
 obtain ⟨q,hq,he⟩:=List.getElem_of_mem (h _ (List.getElem_mem hi) h2)
 have hgq:g.getD q (0,0) = g[q]:=by rw [List.getD_eq_getElem?_getD,List.getElem?_eq_getElem hq];rfl
 exact ⟨q,hq,by rw [hgq,he],by rw [hgq,he]⟩
theorem no_fun {l g:List (Int × Int)} {fr:Int} (h:∀ v ∈ g,v.1 < fr → ∃ u ∈ l,u.1 = v.1):∀ q,q < g.length → (g.getD q (0,0)).1 < fr → ∃ i,i < l.length ∧ (l.getD i (0,0)).1 = (g.getD q (0,0)).1:=fun q hq hlt=>by
 have hgq:g.getD q (0,0) = g[q]:=by rw [List.getD_eq_getElem?_getD,List.getElem?_eq_getElem hq];rfl
 rw [hgq] at hlt ⊢
 obtain ⟨u,hu,he⟩:=h _ (List.getElem_mem hq) hlt
 obtain ⟨i,hi,rfl⟩:=List.getElem_of_mem hu
 exact ⟨i,hi,by rw [List.getD_eq_getElem?_getD,List.getElem?_eq_getElem hi];exact he⟩
end Go.Proofs.YtgjokdngbocehaaGreatDoor
