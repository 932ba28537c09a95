/-
  gimletref02.Span.
-/
import Derived.IntWalk
import Derived.Test.YtgjokdngbocehaaGreatDoorHsA
import Derived.Test.YtgjokdngbocehaaGreatDoorHsC
import Derived.Test.YtgjokdngbocehaaGreatDoorHsE
namespace Go.Proofs.YtgjokdngbocehaaGreatDoor
open Go.RowKit
def RetSp (e:Ending) (p:Nat × Nat):Prop:=e = .returned (.tuple #[.int .i64 p.1,.int .i64 p.2])
def Bd (k v:Nat):Prop:=(k = 0 ∧ v < 256) ∨ (k = 1 ∧ v < 16384) ∨ (k = 2 ∧ v < 1048576) ∨ (k = 3 ∧ v < 67108864)
theorem Bd.step {k v d:Nat} (h:Bd k v) (hk:k < 3) (hd:d < 64):Bd (k + 1) (v * 64 + d):=by unfold Bd at *;omega
theorem Bd.le {k v:Nat} (h:Bd k v):v < 67108864:=by unfold Bd at *;omega
theorem spanL_none (x:UInt8) (t:List UInt8) (h:(leadN x.toNat).1 < t.length + 1):spanL (x :: t) = (1,0):=by
 simp only [spanL];rw [if_pos (.inr h)]
theorem spanL_bad (x:UInt8) (t:List UInt8) (h:contN t (leadN x.toNat).2.1 = none):spanL (x :: t) = (1,0):=by
 simp only [spanL]
 split
 ·rfl
 ·rw [h]
theorem spanL_ok (x:UInt8) (t:List UInt8) (N f m v:Nat) (h0:leadN x.toNat = (N,f,m)) (hn:t.length + 1 ≤ N) (h4:t.length + 1 ≤ 4) (h:contN t f = some v):spanL (x :: t) = (max (widN (N - (t.length + 1)) (v,v)).1 m,min (widN (N - (t.length + 1)) (v,v)).2 1114111):=by
 simp only [spanL]
 rw [h0]
 simp only
 rw [if_neg (by omega),h]
set_option maxRecDepth 100000 in
set_option maxHeartbeats 4000000 in
theorem span_1 (b o n c:Nat) (x:UInt8) (t:List UInt8) (w:World) (hs:Sl w (some ⟨b,o,none⟩) n (u8s (x :: t))) (hnc:n ≤ c) (h4:n ≤ 4) (X:Nat) (hX:x.toNat = X) (hc:X < 128) :
  Calls Tryz.prog 139 #[.slice (some ⟨b,o,none⟩) n c] w fun e w'=>RetSp e (spanL (x :: t)) ∧ w' = w:=by
 have hl:n = t.length + 1:=by have:=hs.len;rw [u8s_length] at this;exact this
 have hX6:X < 256:=by rw [← hX];exact x.toNat_lt
 have hld:leadN x.toNat = (1,X,0):=by rw [hX];unfold leadN;rw [if_pos hc]
 have cells:∀ i,(h:i < t.length) → w.cell? ⟨b,o + 1 + i,none⟩ = some (.int .u8 (t[i]).toNat):=by
  intro i hi
  obtain ⟨_,_,he,_,e⟩:=hs.cell (i + 1) (by rw [u8s_length];simp;omega)
  injection he with he
  injection he with he1 he2
  subst he1
  subst he2
  rw [show o + 1 + i = o + (i + 1) by omega,e]
  simp [u8s]
 have e0:w.cell? ⟨b,o,none⟩ = some (.int .u8 X):=by
  obtain ⟨_,_,he,_,e⟩:=hs.cell 0 (by rw [u8s_length];simp)
  injection he with he
  injection he with he1 he2
  subst he1
  subst he2
  have e1:∀ a o',a = (some (⟨b,o',none⟩:Addr)) → True:=fun _ _ _=>trivial
  rw [Nat.add_zero] at e
  rw [e]
  simp [u8s,hX]
 have CELLS:=Lib.hid cells
 clear cells hs
 obtain ⟨m,hm⟩:∃ m,m = t.length:=⟨_,rfl⟩
 have hn:n - 1 = m:=by omega
 have HN:Hid (n = m + 1):=Lib.hid (by omega)
 have hn0:1 ≤ n:=by omega
 have HM:=Lib.hid hm
 have he0:((n:Int) == 0) = false:=by simp;omega
 by_cases hN:n ≤ 1
 ·have HOK:Hid (∀ v,contN t (X) = some v → spanL (x :: t) = (max (widN (1 - n) (v,v)).1 0,min (widN (1 - n) (v,v)).2 1114111)):=Lib.hid fun v hv=>by
   rw [spanL_ok x t 1 (X) 0 v hld (by omega) (by omega) hv,hl]
  have HBAD:Hid (contN t (X) = none → spanL (x :: t) = (1,0)):=Lib.hid fun h=>spanL_bad x t (by rw [hld];exact h)
  clear hld hl hm hX
  by_cases hc1:c = 1
  ·have hm0:m = 0:=by omega
   go_enter Tryz.func139,Tryz.ntmps139
   go_wp2_with fail
   go_loop [5,61] (fun fv ix=>∃ k v:Nat,ix = .int .i64 k ∧ fv = .int .i64 v ∧ k ≤ m ∧ Bd k v ∧ Hid (contN (t.drop k) v = contN t (X))) (fun _ ix=>m - (intOf ix).toNat)
   case atStart=>exact ⟨0,X,rfl,by go_num,Nat.zero_le _,.inl ⟨rfl,by omega⟩,rfl⟩
   case round =>
    obtain ⟨k,v,rfl,rfl,hk,hbd,hr⟩:=hrel
    by_cases hkm:k < m
    ·exfalso;omega
    ·have hd:=hr.out
     rw [List.drop_of_length_le (by rw [← HM.out];omega)] at hd
     have hkm2:k = m:=by omega
     have HE:=Lib.hid (HOK.out v hd.symm)
     clear hd hr
     subst hkm2
     obtain ⟨K,hK⟩:∃ K,K = 1 - n:=⟨_,rfl⟩
     rw [← hK] at HE
     have hnk:=HN.out
     have hv:=hbd.le
     go_wp2_with fail
     go_loop [5,10,83] (fun fp fq ix=>∃ p q i:Nat,ix = .int .i64 i ∧ fp = .int .i64 p ∧ fq = .int .i64 q ∧ i ≤ K ∧ Bd (k + i) p ∧ Bd (k + i) q ∧ Hid (widN (K - i) (p,q) = widN K (v,v))) (fun _ _ ix=>K - (intOf ix).toNat)
     case atStart=>exact ⟨v,v,0,rfl,rfl,rfl,Nat.zero_le _,hbd,hbd,rfl⟩
     case round =>
      obtain ⟨p,q,i,rfl,rfl,rfl,hi,hbp,hbq,hr⟩:=hrel
      have hp:=hbp.le
      have hq:=hbq.le
      by_cases hiK:i < K
      ·exfalso;omega
      ·have hd:=hr.out
       rw [show K - i = 0 by omega] at hd
       have HD:=Lib.hid hd
       clear hd hr
       go_wp2_with fail
       go_ret2
       refine ⟨?_,rfl⟩
       rw [HE.out,← HD.out]
       have a1:(p:Int) = ((max p 0:Nat):Int):=by omega
       have a2:min (q:Int) 1114111 = ((min q 1114111:Nat):Int):=by omega
       show Ending.returned (.tuple #[.int .i64 ((p:Int)),.int .i64 (min (q:Int) 1114111)]) = Ending.returned (.tuple #[.int .i64 ((max p 0:Nat):Int),.int .i64 ((min q 1114111:Nat):Int)])
       rw [a1,a2]
  ·have hc2':1 < c:=by omega
   go_enter Tryz.func139,Tryz.ntmps139
   go_wp2_with fail
   go_loop [5,61] (fun fv ix=>∃ k v:Nat,ix = .int .i64 k ∧ fv = .int .i64 v ∧ k ≤ m ∧ Bd k v ∧ Hid (contN (t.drop k) v = contN t (X))) (fun _ ix=>m - (intOf ix).toNat)
   case atStart=>exact ⟨0,X,rfl,by go_num,Nat.zero_le _,.inl ⟨rfl,by omega⟩,rfl⟩
   case round =>
    obtain ⟨k,v,rfl,rfl,hk,hbd,hr⟩:=hrel
    by_cases hkm:k < m
    ·exfalso;omega
    ·have hd:=hr.out
     rw [List.drop_of_length_le (by rw [← HM.out];omega)] at hd
     have hkm2:k = m:=by omega
     have HE:=Lib.hid (HOK.out v hd.symm)
     clear hd hr
     subst hkm2
     obtain ⟨K,hK⟩:∃ K,K = 1 - n:=⟨_,rfl⟩
     rw [← hK] at HE
     have hnk:=HN.out
     have hv:=hbd.le
     go_wp2_with fail
     go_loop [5,10,83] (fun fp fq ix=>∃ p q i:Nat,ix = .int .i64 i ∧ fp = .int .i64 p ∧ fq = .int .i64 q ∧ i ≤ K ∧ Bd (k + i) p ∧ Bd (k + i) q ∧ Hid (widN (K - i) (p,q) = widN K (v,v))) (fun _ _ ix=>K - (intOf ix).toNat)
     case atStart=>exact ⟨v,v,0,rfl,rfl,rfl,Nat.zero_le _,hbd,hbd,rfl⟩
     case round =>
      obtain ⟨p,q,i,rfl,rfl,rfl,hi,hbp,hbq,hr⟩:=hrel
      have hp:=hbp.le
      have hq:=hbq.le
      by_cases hiK:i < K
      ·exfalso;omega
      ·have hd:=hr.out
       rw [show K - i = 0 by omega] at hd
       have HD:=Lib.hid hd
       clear hd hr
       go_wp2_with fail
       go_ret2
       refine ⟨?_,rfl⟩
       rw [HE.out,← HD.out]
       have a1:(p:Int) = ((max p 0:Nat):Int):=by omega
       have a2:min (q:Int) 1114111 = ((min q 1114111:Nat):Int):=by omega
       show Ending.returned (.tuple #[.int .i64 ((p:Int)),.int .i64 (min (q:Int) 1114111)]) = Ending.returned (.tuple #[.int .i64 ((max p 0:Nat):Int),.int .i64 ((min q 1114111:Nat):Int)])
       rw [a1,a2]
 ·have hN2:1 < n:=by omega
  have HE:=Lib.hid (spanL_none x t (by rw [hld];simp only;omega))
  clear hN
  clear hld hl hm hX
  go_enter Tryz.func139,Tryz.ntmps139
  go_wp2_with fail
  go_ret2
  exact ⟨by rw [HE.out];rfl,rfl⟩
set_option maxRecDepth 100000 in
set_option maxHeartbeats 4000000 in
theorem span_2 (b o n c:Nat) (x:UInt8) (t:List UInt8) (w:World) (hs:Sl w (some ⟨b,o,none⟩) n (u8s (x :: t))) (hnc:n ≤ c) (h4:n ≤ 4) (X:Nat) (hX:x.toNat = X) (hc:192 ≤ X) (hc2:X < 224) :
  Calls Tryz.prog 139 #[.slice (some ⟨b,o,none⟩) n c] w fun e w'=>RetSp e (spanL (x :: t)) ∧ w' = w:=by
 have hl:n = t.length + 1:=by have:=hs.len;rw [u8s_length] at this;exact this
 have hX6:X < 256:=by rw [← hX];exact x.toNat_lt
 have hld:leadN x.toNat = (2,X - 192,128):=by rw [hX];unfold leadN;rw [if_neg (by omega),if_pos ⟨hc,hc2⟩]
 have cells:∀ i,(h:i < t.length) → w.cell? ⟨b,o + 1 + i,none⟩ = some (.int .u8 (t[i]).toNat):=by
  intro i hi
  obtain ⟨_,_,he,_,e⟩:=hs.cell (i + 1) (by rw [u8s_length];simp;omega)
  injection he with he
  injection he with he1 he2
  subst he1
  subst he2
  rw [show o + 1 + i = o + (i + 1) by omega,e]
  simp [u8s]
 have e0:w.cell? ⟨b,o,none⟩ = some (.int .u8 X):=by
  obtain ⟨_,_,he,_,e⟩:=hs.cell 0 (by rw [u8s_length];simp)
  injection he with he
  injection he with he1 he2
  subst he1
  subst he2
  have e1:∀ a o',a = (some (⟨b,o',none⟩:Addr)) → True:=fun _ _ _=>trivial
  rw [Nat.add_zero] at e
  rw [e]
  simp [u8s,hX]
 have CELLS:=Lib.hid cells
 clear cells hs
 obtain ⟨m,hm⟩:∃ m,m = t.length:=⟨_,rfl⟩
 have hn:n - 1 = m:=by omega
 have HN:Hid (n = m + 1):=Lib.hid (by omega)
 have hn0:1 ≤ n:=by omega
 have HM:=Lib.hid hm
 have he0:((n:Int) == 0) = false:=by simp;omega
 by_cases hN:n ≤ 2
 ·have HOK:Hid (∀ v,contN t (X - 192) = some v → spanL (x :: t) = (max (widN (2 - n) (v,v)).1 128,min (widN (2 - n) (v,v)).2 1114111)):=Lib.hid fun v hv=>by
   rw [spanL_ok x t 2 (X - 192) 128 v hld (by omega) (by omega) hv,hl]
  have HBAD:Hid (contN t (X - 192) = none → spanL (x :: t) = (1,0)):=Lib.hid fun h=>spanL_bad x t (by rw [hld];exact h)
  clear hld hl hm hX
  by_cases hc1:c = 1
  ·have hm0:m = 0:=by omega
   go_enter Tryz.func139,Tryz.ntmps139
   go_wp2_with fail
   go_loop [5,61] (fun fv ix=>∃ k v:Nat,ix = .int .i64 k ∧ fv = .int .i64 v ∧ k ≤ m ∧ Bd k v ∧ Hid (contN (t.drop k) v = contN t (X - 192))) (fun _ ix=>m - (intOf ix).toNat)
   case atStart=>exact ⟨0,X - 192,rfl,by go_num,Nat.zero_le _,.inl ⟨rfl,by omega⟩,rfl⟩
   case round =>
    obtain ⟨k,v,rfl,rfl,hk,hbd,hr⟩:=hrel
    by_cases hkm:k < m
    ·exfalso;omega
    ·have hd:=hr.out
     rw [List.drop_of_length_le (by rw [← HM.out];omega)] at hd
     have hkm2:k = m:=by omega
     have HE:=Lib.hid (HOK.out v hd.symm)
     clear hd hr
     subst hkm2
     obtain ⟨K,hK⟩:∃ K,K = 2 - n:=⟨_,rfl⟩
     rw [← hK] at HE
     have hnk:=HN.out
     have hv:=hbd.le
     go_wp2_with fail
     go_loop [5,10,83] (fun fp fq ix=>∃ p q i:Nat,ix = .int .i64 i ∧ fp = .int .i64 p ∧ fq = .int .i64 q ∧ i ≤ K ∧ Bd (k + i) p ∧ Bd (k + i) q ∧ Hid (widN (K - i) (p,q) = widN K (v,v))) (fun _ _ ix=>K - (intOf ix).toNat)
     case atStart=>exact ⟨v,v,0,rfl,rfl,rfl,Nat.zero_le _,hbd,hbd,rfl⟩
     case round =>
      obtain ⟨p,q,i,rfl,rfl,rfl,hi,hbp,hbq,hr⟩:=hrel
      have hp:=hbp.le
      have hq:=hbq.le
      by_cases hiK:i < K
      ·have hd:=hr.out
       rw [show K - i = (K - (i + 1)) + 1 by omega] at hd
       simp only [widN] at hd
       have HD:=Lib.hid hd
       have HP:=Lib.hid (hbp.step (by omega) (show 0 < 64 by omega))
       have HQ:=Lib.hid (hbq.step (by omega) (show 63 < 64 by omega))
       clear hd hr hbp hbq hbd
       go_wp2_with fail
       go_roundw
       case rel=>exact ⟨p * 64,q * 64 + 63,i + 1,by go_num,by go_num,by go_num,by omega,HP.out,HQ.out,HD⟩
       case measure=>simp [intOf];omega
      ·have hd:=hr.out
       rw [show K - i = 0 by omega] at hd
       have HD:=Lib.hid hd
       clear hd hr
       go_wp2_with fail
       go_ret2
       refine ⟨?_,rfl⟩
       rw [HE.out,← HD.out]
       have a1:max (p:Int) 128 = ((max p 128:Nat):Int):=by omega
       have a2:min (q:Int) 1114111 = ((min q 1114111:Nat):Int):=by omega
       show Ending.returned (.tuple #[.int .i64 (max (p:Int) 128),.int .i64 (min (q:Int) 1114111)]) = Ending.returned (.tuple #[.int .i64 ((max p 128:Nat):Int),.int .i64 ((min q 1114111:Nat):Int)])
       rw [a1,a2]
  ·have hc2':1 < c:=by omega
   go_enter Tryz.func139,Tryz.ntmps139
   go_wp2_with fail
   go_loop [5,61] (fun fv ix=>∃ k v:Nat,ix = .int .i64 k ∧ fv = .int .i64 v ∧ k ≤ m ∧ Bd k v ∧ Hid (contN (t.drop k) v = contN t (X - 192))) (fun _ ix=>m - (intOf ix).toNat)
   case atStart=>exact ⟨0,X - 192,rfl,by go_num,Nat.zero_le _,.inl ⟨rfl,by omega⟩,rfl⟩
   case round =>
    obtain ⟨k,v,rfl,rfl,hk,hbd,hr⟩:=hrel
    by_cases hkm:k < m
    ·have hkl:k < t.length:=by rw [← HM.out];exact hkm
     have ek:=CELLS.out k hkl
     have hd:=hr.out
     rw [List.drop_eq_getElem_cons hkl] at hd
     simp only [contN] at hd
     have hz6:(t[k]).toNat < 256:=(t[k]).toNat_lt
     generalize (t[k]).toNat = z at *
     have hv:=hbd.le
     by_cases hz:z < 128
     ·have HE:=Lib.hid (HBAD.out (by rw [← hd,if_pos (.inl hz)]))
      clear hd hr
      go_wp2_with fail
      go_ret2
      exact ⟨by rw [HE.out];rfl,rfl⟩
     ·by_cases hz2:191 < z
      ·have HE:=Lib.hid (HBAD.out (by rw [← hd,if_pos (.inr hz2)]))
       clear hd hr
       go_wp2_with fail
       go_ret2
       exact ⟨by rw [HE.out];rfl,rfl⟩
      ·have hz3:128 ≤ z:=by omega
       have hz4:z ≤ 191:=by omega
       rw [if_neg (by omega)] at hd
       have hz5:decide ((z:Int) < 128) = false:=by simp;omega
       have hz6':decide ((191:Int) < z) = false:=by simp;omega
       clear hz hz2
       have HD:=Lib.hid hd
       have HBD:=Lib.hid (hbd.step (by omega) (show z - 128 < 64 by omega))
       clear hd hr hbd
       go_wp2_with fail
       go_roundw
       case rel=>exact ⟨k + 1,v * 64 + (z - 128),by go_num,by go_num,by omega,HBD.out,HD⟩
       case measure=>simp [intOf];omega
    ·have hd:=hr.out
     rw [List.drop_of_length_le (by rw [← HM.out];omega)] at hd
     have hkm2:k = m:=by omega
     have HE:=Lib.hid (HOK.out v hd.symm)
     clear hd hr
     subst hkm2
     obtain ⟨K,hK⟩:∃ K,K = 2 - n:=⟨_,rfl⟩
     rw [← hK] at HE
     have hnk:=HN.out
     have hv:=hbd.le
     go_wp2_with fail
     go_loop [5,10,83] (fun fp fq ix=>∃ p q i:Nat,ix = .int .i64 i ∧ fp = .int .i64 p ∧ fq = .int .i64 q ∧ i ≤ K ∧ Bd (k + i) p ∧ Bd (k + i) q ∧ Hid (widN (K - i) (p,q) = widN K (v,v))) (fun _ _ ix=>K - (intOf ix).toNat)
     case atStart=>exact ⟨v,v,0,rfl,rfl,rfl,Nat.zero_le _,hbd,hbd,rfl⟩
     case round =>
      obtain ⟨p,q,i,rfl,rfl,rfl,hi,hbp,hbq,hr⟩:=hrel
      have hp:=hbp.le
      have hq:=hbq.le
      by_cases hiK:i < K
      ·have hd:=hr.out
       rw [show K - i = (K - (i + 1)) + 1 by omega] at hd
       simp only [widN] at hd
       have HD:=Lib.hid hd
       have HP:=Lib.hid (hbp.step (by omega) (show 0 < 64 by omega))
       have HQ:=Lib.hid (hbq.step (by omega) (show 63 < 64 by omega))
       clear hd hr hbp hbq hbd
       go_wp2_with fail
       go_roundw
       case rel=>exact ⟨p * 64,q * 64 + 63,i + 1,by go_num,by go_num,by go_num,by omega,HP.out,HQ.out,HD⟩
       case measure=>simp [intOf];omega
      ·have hd:=hr.out
       rw [show K - i = 0 by omega] at hd
       have HD:=Lib.hid hd
       clear hd hr
       go_wp2_with fail
       go_ret2
       refine ⟨?_,rfl⟩
       rw [HE.out,← HD.out]
       have a1:max (p:Int) 128 = ((max p 128:Nat):Int):=by omega
       have a2:min (q:Int) 1114111 = ((min q 1114111:Nat):Int):=by omega
       show Ending.returned (.tuple #[.int .i64 (max (p:Int) 128),.int .i64 (min (q:Int) 1114111)]) = Ending.returned (.tuple #[.int .i64 ((max p 128:Nat):Int),.int .i64 ((min q 1114111:Nat):Int)])
       rw [a1,a2]
 ·have hN2:2 < n:=by omega
  have HE:=Lib.hid (spanL_none x t (by rw [hld];simp only;omega))
  clear hN
  clear hld hl hm hX
  go_enter Tryz.func139,Tryz.ntmps139
  go_wp2_with fail
  go_ret2
  exact ⟨by rw [HE.out];rfl,rfl⟩
set_option maxRecDepth 100000 in
set_option maxHeartbeats 4000000 in
theorem span_3 (b o n c:Nat) (x:UInt8) (t:List UInt8) (w:World) (hs:Sl w (some ⟨b,o,none⟩) n (u8s (x :: t))) (hnc:n ≤ c) (h4:n ≤ 4) (X:Nat) (hX:x.toNat = X) (hc:224 ≤ X) (hc2:X < 240) :
  Calls Tryz.prog 139 #[.slice (some ⟨b,o,none⟩) n c] w fun e w'=>RetSp e (spanL (x :: t)) ∧ w' = w:=by
 have hl:n = t.length + 1:=by have:=hs.len;rw [u8s_length] at this;exact this
 have hX6:X < 256:=by rw [← hX];exact x.toNat_lt
 have hld:leadN x.toNat = (3,X - 224,2048):=by rw [hX];unfold leadN;rw [if_neg (by omega),if_neg (by omega),if_pos ⟨hc,hc2⟩]
 have cells:∀ i,(h:i < t.length) → w.cell? ⟨b,o + 1 + i,none⟩ = some (.int .u8 (t[i]).toNat):=by
  intro i hi
  obtain ⟨_,_,he,_,e⟩:=hs.cell (i + 1) (by rw [u8s_length];simp;omega)
  injection he with he
  injection he with he1 he2
  subst he1
  subst he2
  rw [show o + 1 + i = o + (i + 1) by omega,e]
  simp [u8s]
 have e0:w.cell? ⟨b,o,none⟩ = some (.int .u8 X):=by
  obtain ⟨_,_,he,_,e⟩:=hs.cell 0 (by rw [u8s_length];simp)
  injection he with he
  injection he with he1 he2
  subst he1
  subst he2
  have e1:∀ a o',a = (some (⟨b,o',none⟩:Addr)) → True:=fun _ _ _=>trivial
  rw [Nat.add_zero] at e
  rw [e]
  simp [u8s,hX]
 have CELLS:=Lib.hid cells
 clear cells hs
 obtain ⟨m,hm⟩:∃ m,m = t.length:=⟨_,rfl⟩
 have hn:n - 1 = m:=by omega
 have HN:Hid (n = m + 1):=Lib.hid (by omega)
 have hn0:1 ≤ n:=by omega
 have HM:=Lib.hid hm
 have he0:((n:Int) == 0) = false:=by simp;omega
 by_cases hN:n ≤ 3
 ·have HOK:Hid (∀ v,contN t (X - 224) = some v → spanL (x :: t) = (max (widN (3 - n) (v,v)).1 2048,min (widN (3 - n) (v,v)).2 1114111)):=Lib.hid fun v hv=>by
   rw [spanL_ok x t 3 (X - 224) 2048 v hld (by omega) (by omega) hv,hl]
  have HBAD:Hid (contN t (X - 224) = none → spanL (x :: t) = (1,0)):=Lib.hid fun h=>spanL_bad x t (by rw [hld];exact h)
  clear hld hl hm hX
  by_cases hc1:c = 1
  ·have hm0:m = 0:=by omega
   go_enter Tryz.func139,Tryz.ntmps139
   go_wp2_with fail
   go_loop [5,61] (fun fv ix=>∃ k v:Nat,ix = .int .i64 k ∧ fv = .int .i64 v ∧ k ≤ m ∧ Bd k v ∧ Hid (contN (t.drop k) v = contN t (X - 224))) (fun _ ix=>m - (intOf ix).toNat)
   case atStart=>exact ⟨0,X - 224,rfl,by go_num,Nat.zero_le _,.inl ⟨rfl,by omega⟩,rfl⟩
   case round =>
    obtain ⟨k,v,rfl,rfl,hk,hbd,hr⟩:=hrel
    by_cases hkm:k < m
    ·exfalso;omega
    ·have hd:=hr.out
     rw [List.drop_of_length_le (by rw [← HM.out];omega)] at hd
     have hkm2:k = m:=by omega
     have HE:=Lib.hid (HOK.out v hd.symm)
     clear hd hr
     subst hkm2
     obtain ⟨K,hK⟩:∃ K,K = 3 - n:=⟨_,rfl⟩
     rw [← hK] at HE
     have hnk:=HN.out
     have hv:=hbd.le
     go_wp2_with fail
     go_loop [5,10,83] (fun fp fq ix=>∃ p q i:Nat,ix = .int .i64 i ∧ fp = .int .i64 p ∧ fq = .int .i64 q ∧ i ≤ K ∧ Bd (k + i) p ∧ Bd (k + i) q ∧ Hid (widN (K - i) (p,q) = widN K (v,v))) (fun _ _ ix=>K - (intOf ix).toNat)
     case atStart=>exact ⟨v,v,0,rfl,rfl,rfl,Nat.zero_le _,hbd,hbd,rfl⟩
     case round =>
      obtain ⟨p,q,i,rfl,rfl,rfl,hi,hbp,hbq,hr⟩:=hrel
      have hp:=hbp.le
      have hq:=hbq.le
      by_cases hiK:i < K
      ·have hd:=hr.out
       rw [show K - i = (K - (i + 1)) + 1 by omega] at hd
       simp only [widN] at hd
       have HD:=Lib.hid hd
       have HP:=Lib.hid (hbp.step (by omega) (show 0 < 64 by omega))
       have HQ:=Lib.hid (hbq.step (by omega) (show 63 < 64 by omega))
       clear hd hr hbp hbq hbd
       go_wp2_with fail
       go_roundw
       case rel=>exact ⟨p * 64,q * 64 + 63,i + 1,by go_num,by go_num,by go_num,by omega,HP.out,HQ.out,HD⟩
       case measure=>simp [intOf];omega
      ·have hd:=hr.out
       rw [show K - i = 0 by omega] at hd
       have HD:=Lib.hid hd
       clear hd hr
       go_wp2_with fail
       go_ret2
       refine ⟨?_,rfl⟩
       rw [HE.out,← HD.out]
       have a1:max (p:Int) 2048 = ((max p 2048:Nat):Int):=by omega
       have a2:min (q:Int) 1114111 = ((min q 1114111:Nat):Int):=by omega
       show Ending.returned (.tuple #[.int .i64 (max (p:Int) 2048),.int .i64 (min (q:Int) 1114111)]) = Ending.returned (.tuple #[.int .i64 ((max p 2048:Nat):Int),.int .i64 ((min q 1114111:Nat):Int)])
       rw [a1,a2]
  ·have hc2':1 < c:=by omega
   go_enter Tryz.func139,Tryz.ntmps139
   go_wp2_with fail
   go_loop [5,61] (fun fv ix=>∃ k v:Nat,ix = .int .i64 k ∧ fv = .int .i64 v ∧ k ≤ m ∧ Bd k v ∧ Hid (contN (t.drop k) v = contN t (X - 224))) (fun _ ix=>m - (intOf ix).toNat)
   case atStart=>exact ⟨0,X - 224,rfl,by go_num,Nat.zero_le _,.inl ⟨rfl,by omega⟩,rfl⟩
   case round =>
    obtain ⟨k,v,rfl,rfl,hk,hbd,hr⟩:=hrel
    by_cases hkm:k < m
    ·have hkl:k < t.length:=by rw [← HM.out];exact hkm
     have ek:=CELLS.out k hkl
     have hd:=hr.out
     rw [List.drop_eq_getElem_cons hkl] at hd
     simp only [contN] at hd
     have hz6:(t[k]).toNat < 256:=(t[k]).toNat_lt
     generalize (t[k]).toNat = z at *
     have hv:=hbd.le
     by_cases hz:z < 128
     ·have HE:=Lib.hid (HBAD.out (by rw [← hd,if_pos (.inl hz)]))
      clear hd hr
      go_wp2_with fail
      go_ret2
      exact ⟨by rw [HE.out];rfl,rfl⟩
     ·by_cases hz2:191 < z
      ·have HE:=Lib.hid (HBAD.out (by rw [← hd,if_pos (.inr hz2)]))
       clear hd hr
       go_wp2_with fail
       go_ret2
       exact ⟨by rw [HE.out];rfl,rfl⟩
      ·have hz3:128 ≤ z:=by omega
       have hz4:z ≤ 191:=by omega
       rw [if_neg (by omega)] at hd
       have hz5:decide ((z:Int) < 128) = false:=by simp;omega
       have hz6':decide ((191:Int) < z) = false:=by simp;omega
       clear hz hz2
       have HD:=Lib.hid hd
       have HBD:=Lib.hid (hbd.step (by omega) (show z - 128 < 64 by omega))
       clear hd hr hbd
       go_wp2_with fail
       go_roundw
       case rel=>exact ⟨k + 1,v * 64 + (z - 128),by go_num,by go_num,by omega,HBD.out,HD⟩
       case measure=>simp [intOf];omega
    ·have hd:=hr.out
     rw [List.drop_of_length_le (by rw [← HM.out];omega)] at hd
     have hkm2:k = m:=by omega
     have HE:=Lib.hid (HOK.out v hd.symm)
     clear hd hr
     subst hkm2
     obtain ⟨K,hK⟩:∃ K,K = 3 - n:=⟨_,rfl⟩
     rw [← hK] at HE
     have hnk:=HN.out
     have hv:=hbd.le
     go_wp2_with fail
     go_loop [5,10,83] (fun fp fq ix=>∃ p q i:Nat,ix = .int .i64 i ∧ fp = .int .i64 p ∧ fq = .int .i64 q ∧ i ≤ K ∧ Bd (k + i) p ∧ Bd (k + i) q ∧ Hid (widN (K - i) (p,q) = widN K (v,v))) (fun _ _ ix=>K - (intOf ix).toNat)
     case atStart=>exact ⟨v,v,0,rfl,rfl,rfl,Nat.zero_le _,hbd,hbd,rfl⟩
     case round =>
      obtain ⟨p,q,i,rfl,rfl,rfl,hi,hbp,hbq,hr⟩:=hrel
      have hp:=hbp.le
      have hq:=hbq.le
      by_cases hiK:i < K
      ·have hd:=hr.out
       rw [show K - i = (K - (i + 1)) + 1 by omega] at hd
       simp only [widN] at hd
       have HD:=Lib.hid hd
       have HP:=Lib.hid (hbp.step (by omega) (show 0 < 64 by omega))
       have HQ:=Lib.hid (hbq.step (by omega) (show 63 < 64 by omega))
       clear hd hr hbp hbq hbd
       go_wp2_with fail
       go_roundw
       case rel=>exact ⟨p * 64,q * 64 + 63,i + 1,by go_num,by go_num,by go_num,by omega,HP.out,HQ.out,HD⟩
       case measure=>simp [intOf];omega
      ·have hd:=hr.out
       rw [show K - i = 0 by omega] at hd
       have HD:=Lib.hid hd
       clear hd hr
       go_wp2_with fail
       go_ret2
       refine ⟨?_,rfl⟩
       rw [HE.out,← HD.out]
       have a1:max (p:Int) 2048 = ((max p 2048:Nat):Int):=by omega
       have a2:min (q:Int) 1114111 = ((min q 1114111:Nat):Int):=by omega
       show Ending.returned (.tuple #[.int .i64 (max (p:Int) 2048),.int .i64 (min (q:Int) 1114111)]) = Ending.returned (.tuple #[.int .i64 ((max p 2048:Nat):Int),.int .i64 ((min q 1114111:Nat):Int)])
       rw [a1,a2]
 ·have hN2:3 < n:=by omega
  have HE:=Lib.hid (spanL_none x t (by rw [hld];simp only;omega))
  clear hN
  clear hld hl hm hX
  go_enter Tryz.func139,Tryz.ntmps139
  go_wp2_with fail
  go_ret2
  exact ⟨by rw [HE.out];rfl,rfl⟩
set_option maxRecDepth 100000 in
set_option maxHeartbeats 4000000 in
theorem span_4 (b o n c:Nat) (x:UInt8) (t:List UInt8) (w:World) (hs:Sl w (some ⟨b,o,none⟩) n (u8s (x :: t))) (hnc:n ≤ c) (h4:n ≤ 4) (X:Nat) (hX:x.toNat = X) (hc:240 ≤ X) (hc2:X < 248) :
  Calls Tryz.prog 139 #[.slice (some ⟨b,o,none⟩) n c] w fun e w'=>RetSp e (spanL (x :: t)) ∧ w' = w:=by
 have hl:n = t.length + 1:=by have:=hs.len;rw [u8s_length] at this;exact this
 have hX6:X < 256:=by rw [← hX];exact x.toNat_lt
 have hld:leadN x.toNat = (4,X - 240,65536):=by rw [hX];unfold leadN;rw [if_neg (by omega),if_neg (by omega),if_neg (by omega),if_pos ⟨hc,hc2⟩]
 have cells:∀ i,(h:i < t.length) → w.cell? ⟨b,o + 1 + i,none⟩ = some (.int .u8 (t[i]).toNat):=by
  intro i hi
  obtain ⟨_,_,he,_,e⟩:=hs.cell (i + 1) (by rw [u8s_length];simp;omega)
  injection he with he
  injection he with he1 he2
  subst he1
  subst he2
  rw [show o + 1 + i = o + (i + 1) by omega,e]
  simp [u8s]
 have e0:w.cell? ⟨b,o,none⟩ = some (.int .u8 X):=by
  obtain ⟨_,_,he,_,e⟩:=hs.cell 0 (by rw [u8s_length];simp)
  injection he with he
  injection he with he1 he2
  subst he1
  subst he2
  have e1:∀ a o',a = (some (⟨b,o',none⟩:Addr)) → True:=fun _ _ _=>trivial
  rw [Nat.add_zero] at e
  rw [e]
  simp [u8s,hX]
 have CELLS:=Lib.hid cells
 clear cells hs
 obtain ⟨m,hm⟩:∃ m,m = t.length:=⟨_,rfl⟩
 have hn:n - 1 = m:=by omega
 have HN:Hid (n = m + 1):=Lib.hid (by omega)
 have hn0:1 ≤ n:=by omega
 have HM:=Lib.hid hm
 have he0:((n:Int) == 0) = false:=by simp;omega
 by_cases hN:n ≤ 4
 ·have HOK:Hid (∀ v,contN t (X - 240) = some v → spanL (x :: t) = (max (widN (4 - n) (v,v)).1 65536,min (widN (4 - n) (v,v)).2 1114111)):=Lib.hid fun v hv=>by
   rw [spanL_ok x t 4 (X - 240) 65536 v hld (by omega) (by omega) hv,hl]
  have HBAD:Hid (contN t (X - 240) = none → spanL (x :: t) = (1,0)):=Lib.hid fun h=>spanL_bad x t (by rw [hld];exact h)
  clear hld hl hm hX
  by_cases hc1:c = 1
  ·have hm0:m = 0:=by omega
   go_enter Tryz.func139,Tryz.ntmps139
   go_wp2_with fail
   go_loop [5,61] (fun fv ix=>∃ k v:Nat,ix = .int .i64 k ∧ fv = .int .i64 v ∧ k ≤ m ∧ Bd k v ∧ Hid (contN (t.drop k) v = contN t (X - 240))) (fun _ ix=>m - (intOf ix).toNat)
   case atStart=>exact ⟨0,X - 240,rfl,by go_num,Nat.zero_le _,.inl ⟨rfl,by omega⟩,rfl⟩
   case round =>
    obtain ⟨k,v,rfl,rfl,hk,hbd,hr⟩:=hrel
    by_cases hkm:k < m
    ·exfalso;omega
    ·have hd:=hr.out
     rw [List.drop_of_length_le (by rw [← HM.out];omega)] at hd
     have hkm2:k = m:=by omega
     have HE:=Lib.hid (HOK.out v hd.symm)
     clear hd hr
     subst hkm2
     obtain ⟨K,hK⟩:∃ K,K = 4 - n:=⟨_,rfl⟩
     rw [← hK] at HE
     have hnk:=HN.out
     have hv:=hbd.le
     go_wp2_with fail
     go_loop [5,10,83] (fun fp fq ix=>∃ p q i:Nat,ix = .int .i64 i ∧ fp = .int .i64 p ∧ fq = .int .i64 q ∧ i ≤ K ∧ Bd (k + i) p ∧ Bd (k + i) q ∧ Hid (widN (K - i) (p,q) = widN K (v,v))) (fun _ _ ix=>K - (intOf ix).toNat)
     case atStart=>exact ⟨v,v,0,rfl,rfl,rfl,Nat.zero_le _,hbd,hbd,rfl⟩
     case round =>
      obtain ⟨p,q,i,rfl,rfl,rfl,hi,hbp,hbq,hr⟩:=hrel
      have hp:=hbp.le
      have hq:=hbq.le
      by_cases hiK:i < K
      ·have hd:=hr.out
       rw [show K - i = (K - (i + 1)) + 1 by omega] at hd
       simp only [widN] at hd
       have HD:=Lib.hid hd
       have HP:=Lib.hid (hbp.step (by omega) (show 0 < 64 by omega))
       have HQ:=Lib.hid (hbq.step (by omega) (show 63 < 64 by omega))
       clear hd hr hbp hbq hbd
       go_wp2_with fail
       go_roundw
       case rel=>exact ⟨p * 64,q * 64 + 63,i + 1,by go_num,by go_num,by go_num,by omega,HP.out,HQ.out,HD⟩
       case measure=>simp [intOf];omega
      ·have hd:=hr.out
       rw [show K - i = 0 by omega] at hd
       have HD:=Lib.hid hd
       clear hd hr
       go_wp2_with fail
       go_ret2
       refine ⟨?_,rfl⟩
       rw [HE.out,← HD.out]
       have a1:max (p:Int) 65536 = ((max p 65536:Nat):Int):=by omega
       have a2:min (q:Int) 1114111 = ((min q 1114111:Nat):Int):=by omega
       show Ending.returned (.tuple #[.int .i64 (max (p:Int) 65536),.int .i64 (min (q:Int) 1114111)]) = Ending.returned (.tuple #[.int .i64 ((max p 65536:Nat):Int),.int .i64 ((min q 1114111:Nat):Int)])
       rw [a1,a2]
  ·have hc2':1 < c:=by omega
   go_enter Tryz.func139,Tryz.ntmps139
   go_wp2_with fail
   go_loop [5,61] (fun fv ix=>∃ k v:Nat,ix = .int .i64 k ∧ fv = .int .i64 v ∧ k ≤ m ∧ Bd k v ∧ Hid (contN (t.drop k) v = contN t (X - 240))) (fun _ ix=>m - (intOf ix).toNat)
   case atStart=>exact ⟨0,X - 240,rfl,by go_num,Nat.zero_le _,.inl ⟨rfl,by omega⟩,rfl⟩
   case round =>
    obtain ⟨k,v,rfl,rfl,hk,hbd,hr⟩:=hrel
    by_cases hkm:k < m
    ·have hkl:k < t.length:=by rw [← HM.out];exact hkm
     have ek:=CELLS.out k hkl
     have hd:=hr.out
     rw [List.drop_eq_getElem_cons hkl] at hd
     simp only [contN] at hd
     have hz6:(t[k]).toNat < 256:=(t[k]).toNat_lt
     generalize (t[k]).toNat = z at *
     have hv:=hbd.le
     by_cases hz:z < 128
     ·have HE:=Lib.hid (HBAD.out (by rw [← hd,if_pos (.inl hz)]))
      clear hd hr
      go_wp2_with fail
      go_ret2
      exact ⟨by rw [HE.out];rfl,rfl⟩
     ·by_cases hz2:191 < z
      ·have HE:=Lib.hid (HBAD.out (by rw [← hd,if_pos (.inr hz2)]))
       clear hd hr
       go_wp2_with fail
       go_ret2
       exact ⟨by rw [HE.out];rfl,rfl⟩
      ·have hz3:128 ≤ z:=by omega
       have hz4:z ≤ 191:=by omega
       rw [if_neg (by omega)] at hd
       have hz5:decide ((z:Int) < 128) = false:=by simp;omega
       have hz6':decide ((191:Int) < z) = false:=by simp;omega
       clear hz hz2
       have HD:=Lib.hid hd
       have HBD:=Lib.hid (hbd.step (by omega) (show z - 128 < 64 by omega))
       clear hd hr hbd
       go_wp2_with fail
       go_roundw
       case rel=>exact ⟨k + 1,v * 64 + (z - 128),by go_num,by go_num,by omega,HBD.out,HD⟩
       case measure=>simp [intOf];omega
    ·have hd:=hr.out
     rw [List.drop_of_length_le (by rw [← HM.out];omega)] at hd
     have hkm2:k = m:=by omega
     have HE:=Lib.hid (HOK.out v hd.symm)
     clear hd hr
     subst hkm2
     obtain ⟨K,hK⟩:∃ K,K = 4 - n:=⟨_,rfl⟩
     rw [← hK] at HE
     have hnk:=HN.out
     have hv:=hbd.le
     go_wp2_with fail
     go_loop [5,10,83] (fun fp fq ix=>∃ p q i:Nat,ix = .int .i64 i ∧ fp = .int .i64 p ∧ fq = .int .i64 q ∧ i ≤ K ∧ Bd (k + i) p ∧ Bd (k + i) q ∧ Hid (widN (K - i) (p,q) = widN K (v,v))) (fun _ _ ix=>K - (intOf ix).toNat)
     case atStart=>exact ⟨v,v,0,rfl,rfl,rfl,Nat.zero_le _,hbd,hbd,rfl⟩
     case round =>
      obtain ⟨p,q,i,rfl,rfl,rfl,hi,hbp,hbq,hr⟩:=hrel
      have hp:=hbp.le
      have hq:=hbq.le
      by_cases hiK:i < K
      ·have hd:=hr.out
       rw [show K - i = (K - (i + 1)) + 1 by omega] at hd
       simp only [widN] at hd
       have HD:=Lib.hid hd
       have HP:=Lib.hid (hbp.step (by omega) (show 0 < 64 by omega))
       have HQ:=Lib.hid (hbq.step (by omega) (show 63 < 64 by omega))
       clear hd hr hbp hbq hbd
       go_wp2_with fail
       go_roundw
       case rel=>exact ⟨p * 64,q * 64 + 63,i + 1,by go_num,by go_num,by go_num,by omega,HP.out,HQ.out,HD⟩
       case measure=>simp [intOf];omega
      ·have hd:=hr.out
       rw [show K - i = 0 by omega] at hd
       have HD:=Lib.hid hd
       clear hd hr
       go_wp2_with fail
       go_ret2
       refine ⟨?_,rfl⟩
       rw [HE.out,← HD.out]
       have a1:max (p:Int) 65536 = ((max p 65536:Nat):Int):=by omega
       have a2:min (q:Int) 1114111 = ((min q 1114111:Nat):Int):=by omega
       show Ending.returned (.tuple #[.int .i64 (max (p:Int) 65536),.int .i64 (min (q:Int) 1114111)]) = Ending.returned (.tuple #[.int .i64 ((max p 65536:Nat):Int),.int .i64 ((min q 1114111:Nat):Int)])
       rw [a1,a2]
 ·exfalso;omega
set_option maxRecDepth 100000 in
set_option maxHeartbeats 2000000 in
theorem span_off (b o n c:Nat) (x:UInt8) (t:List UInt8) (w:World) (hs:Sl w (some ⟨b,o,none⟩) n (u8s (x :: t))) (h4:n ≤ 4) (X:Nat) (hX:x.toNat = X) (hc:(128 ≤ X ∧ X < 192) ∨ 248 ≤ X) :
  Calls Tryz.prog 139 #[.slice (some ⟨b,o,none⟩) n c] w fun e w'=>RetSp e (spanL (x :: t)) ∧ w' = w:=by
 have hl:n = t.length + 1:=by have:=hs.len;rw [u8s_length] at this;exact this
 have hX6:X < 256:=by rw [← hX];exact x.toNat_lt
 have hld:leadN x.toNat = (0,0,0):=by rw [hX];unfold leadN;rw [if_neg (by omega),if_neg (by omega),if_neg (by omega),if_neg (by omega)]
 have e0:w.cell? ⟨b,o,none⟩ = some (.int .u8 X):=by
  obtain ⟨_,_,he,_,e⟩:=hs.cell 0 (by rw [u8s_length];simp)
  injection he with he
  injection he with he1 he2
  subst he1
  subst he2
  rw [Nat.add_zero] at e
  rw [e]
  simp [u8s,hX]
 have HE:=Lib.hid (spanL_none x t (by rw [hld];exact Nat.succ_pos _))
 have hn0:1 ≤ n:=by omega
 have he0:((n:Int) == 0) = false:=by simp;omega
 clear hs hl hld hX
 rcases hc with ⟨hc1,hc2⟩ | hc1
 ·go_enter Tryz.func139,Tryz.ntmps139
  go_wp2_with fail
  go_ret2
  exact ⟨by rw [HE.out];rfl,rfl⟩
 ·go_enter Tryz.func139,Tryz.ntmps139
  go_wp2_with fail
  go_ret2
  exact ⟨by rw [HE.out];rfl,rfl⟩
set_option maxRecDepth 100000 in
theorem Span_any (a:Option Addr) (n c:Nat) (l:List UInt8) (w:World) (hs:Sl w a n (u8s l)) (hnc:n ≤ c) :
  Calls Tryz.prog 139 #[.slice a n c] w fun e w'=>RetSp e (spanL l) ∧ w' = w:=by
 have hl:n = l.length:=by have:=hs.len;rw [u8s_length] at this;exact this
 rcases l with _ | ⟨x,t⟩
 ·obtain rfl:n = 0:=hl
  go_enter Tryz.func139,Tryz.ntmps139
  go_wp2_with fail
  go_ret2
  exact ⟨rfl,rfl⟩
 ·by_cases h4:n ≤ 4
  ·obtain ⟨b,o,rfl,_,_⟩:=hs.cell 0 (by simp [u8s])
   by_cases h1:x.toNat < 128
   ·exact span_1 b o n c x t w hs hnc h4 _ rfl h1
   ·by_cases h2:192 ≤ x.toNat ∧ x.toNat < 224
    ·exact span_2 b o n c x t w hs hnc h4 _ rfl h2.1 h2.2
    ·by_cases h3:224 ≤ x.toNat ∧ x.toNat < 240
     ·exact span_3 b o n c x t w hs hnc h4 _ rfl h3.1 h3.2
     ·by_cases h5:240 ≤ x.toNat ∧ x.toNat < 248
      ·exact span_4 b o n c x t w hs hnc h4 _ rfl h5.1 h5.2
      ·exact span_off b o n c x t w hs h4 _ rfl (by omega)
  ·have h5:4 < n:=by omega
   have he0:((n:Int) == 0) = false:=by simp;omega
   have HE:Hid (spanL (x :: t) = (1,0)):=Lib.hid (by simp only [spanL];rw [if_pos (.inl (by simp at hl;omega))])
   clear hl hs h4
   go_enter Tryz.func139,Tryz.ntmps139
   go_wp2_with fail
   go_ret2
   exact ⟨by rw [HE.out];rfl,rfl⟩
end Go.Proofs.YtgjokdngbocehaaGreatDoor
namespace Go.Proofs.YtgjokdngbocehaaGreatDoor
open Go.RowKit
theorem u8s_enc (r:Nat) (h:r ≤ 1114111):(u8s (encU r)).toArray = ((encN r).map fun x:Nat=>Value.int .u8 x).toArray:=by
 congr 1
 unfold u8s encU
 rw [List.map_map]
 apply List.map_congr_left
 intro x hx
 simp only [Function.comp]
 rw [toNat_of x (encN_byte r h x hx)]
theorem ret_enc (r:Nat) (h:r ≤ 1114111) (w:World) (k:Nat) (hk:(encN r).length = k) (xs:Array Value) (hx:xs = ((encN r).map fun x:Nat=>Value.int .u8 x).toArray) :
  RetSl (.returned (.slice (some ⟨w.heap.size,0,none⟩) k k)) (w.alloc (.cells xs 5)) (u8s (encU r)):=by
 rw [← u8s_enc r h] at hx
 subst hx
 have hs:=sl_new (l:=encU r) (heap_alloc_new w (.cells (u8s (encU r)).toArray 5))
 rw [show (encU r).length = k by simp [encU,hk]] at hs
 exact ⟨_,_,_,rfl,hs⟩
set_option maxRecDepth 1000000 in
set_option maxHeartbeats 2000000 in
theorem Bytes_any (r:Nat) (h:r ≤ 1114111) (w:World) :
  Calls Tryz.prog 140 #[.int .i64 r] w fun e w'=>RetSl e w' (u8s (encU r)) ∧ Below w.heap.size w w':=by
 by_cases h1:r < 128
 ·have HR:=Lib.hid (ret_enc r h w 1 (by unfold encN;rw [if_pos h1];rfl) #[.int .u8 (r:Int)] (by unfold encN;rw [if_pos h1];rfl))
  go_enter Tryz.func140,Tryz.ntmps140
  go_wp2_with fail
  go_ret
  exact ⟨HR.out,(Below.refl _ _).alloc (Nat.le_refl _) _⟩
 ·have h1':128 ≤ r:=by omega
  by_cases h2:r < 2048
  ·have HR:=Lib.hid (ret_enc r h w 2 (by unfold encN;rw [if_neg h1,if_pos h2];rfl) #[.int .u8 ((192 + r / 64:Nat):Int),.int .u8 ((128 + r % 64:Nat):Int)] (by unfold encN;rw [if_neg h1,if_pos h2];rfl))
   have q1:(r:Int).tdiv 64 = ((r / 64:Nat):Int):=rfl
   have q2:(r:Int).tmod 64 = ((r % 64:Nat):Int):=rfl
   clear h1
   go_enter Tryz.func140,Tryz.ntmps140
   go_wp2_with fail
   go_ret
   exact ⟨HR.out,(Below.refl _ _).alloc (Nat.le_refl _) _⟩
  ·have h2':2048 ≤ r:=by omega
   by_cases h3:r < 65536
   ·have HR:=Lib.hid (ret_enc r h w 3 (by unfold encN;rw [if_neg h1,if_neg h2,if_pos h3];rfl) #[.int .u8 ((224 + r / 4096:Nat):Int),.int .u8 ((128 + r / 64 % 64:Nat):Int),.int .u8 ((128 + r % 64:Nat):Int)] (by unfold encN;rw [if_neg h1,if_neg h2,if_pos h3];rfl))
    have q1:(r:Int).tdiv 64 = ((r / 64:Nat):Int):=rfl
    have q2:(r:Int).tmod 64 = ((r % 64:Nat):Int):=rfl
    have q3:(r:Int).tdiv 4096 = ((r / 4096:Nat):Int):=rfl
    have q4:((r / 64:Nat):Int).tmod 64 = ((r / 64 % 64:Nat):Int):=rfl
    clear h1 h2
    go_enter Tryz.func140,Tryz.ntmps140
    go_wp2_with fail
    go_ret
    exact ⟨HR.out,(Below.refl _ _).alloc (Nat.le_refl _) _⟩
   ·have h3':65536 ≤ r:=by omega
    have HR:=Lib.hid (ret_enc r h w 4 (by unfold encN;rw [if_neg h1,if_neg h2,if_neg h3];rfl) #[.int .u8 ((240 + r / 262144:Nat):Int),.int .u8 ((128 + r / 4096 % 64:Nat):Int),.int .u8 ((128 + r / 64 % 64:Nat):Int),.int .u8 ((128 + r % 64:Nat):Int)] (by unfold encN;rw [if_neg h1,if_neg h2,if_neg h3];rfl))
    have q1:(r:Int).tdiv 64 = ((r / 64:Nat):Int):=rfl
    have q2:(r:Int).tmod 64 = ((r % 64:Nat):Int):=rfl
    have q3:(r:Int).tdiv 4096 = ((r / 4096:Nat):Int):=rfl
    have q5:(r:Int).tdiv 262144 = ((r / 262144:Nat):Int):=rfl
    have q4:((r / 64:Nat):Int).tmod 64 = ((r / 64 % 64:Nat):Int):=rfl
    have q6:((r / 4096:Nat):Int).tmod 64 = ((r / 4096 % 64:Nat):Int):=rfl
    clear h1 h2 h3
    go_enter Tryz.func140,Tryz.ntmps140
    go_wp2_with fail
    go_ret
    exact ⟨HR.out,(Below.refl _ _).alloc (Nat.le_refl _) _⟩
end Go.Proofs.YtgjokdngbocehaaGreatDoor
namespace Go.Proofs.YtgjokdngbocehaaGreatDoor
open Go.RowKit
def flat (l:List (Int × Int)):List Value:=l.flatMap fun p=>[.int .i64 p.1,.int .i64 p.2]
theorem flat_at (l:List (Int × Int)):∀ i,(h:i < l.length) → (flat l)[i * 2]? = some (.int .i64 l[i].1) ∧ (flat l)[i * 2 + 1]? = some (.int .i64 l[i].2):=by
 induction l with
 | nil=>intro i h;simp at h
 | cons p l ih =>
  intro i h
  cases i with
  | zero=>simp [flat]
  | succ i =>
   have:=ih i (by simpa using h)
   simpa [flat,Nat.add_mul] using this
def RetRng2 (w:World) (c:Nat) (e:Ending) (w':World):Prop :=
 ∃ b n,e = .returned (.slice (some ⟨b,0,none⟩) n n) ∧ n = (rng c).length ∧ b < w'.heap.size ∧ Below w.heap.size w w' ∧
  ∀ i,(h:i < (rng c).length) → w'.cell? ⟨b,i * 2,none⟩ = some (.int .i64 ((rng c)[i]).1) ∧ w'.cell? ⟨b,i * 2 + 1,none⟩ = some (.int .i64 ((rng c)[i]).2)
theorem retRng2_new (w:World) (c:Nat) (n:Nat) (hn:n = (rng c).length):RetRng2 w c (.returned (.slice (some ⟨w.heap.size,0,none⟩) n n)) (w.alloc (.cells (flat (rng c)).toArray 215)):=by
 refine ⟨w.heap.size,n,rfl,hn,by simp,(Below.refl _ _).alloc (Nat.le_refl _) _,fun i hi=>?_⟩
 obtain ⟨h1,h2⟩:=flat_at (rng c) i hi
 rw [cell_heap (heap_alloc_new w _),cell_heap (heap_alloc_new w _)]
 exact ⟨by simpa using h1,by simpa using h2⟩
set_option maxRecDepth 100000 in
set_option maxHeartbeats 2000000 in
theorem Ranges_any (c:Nat) (hc:c < 6) (w:World) :
  Calls Tryz.prog 141 #[.int .i64 c] w fun e w'=>RetRng2 w c e w':=by
 match c,hc with
 | 0,_ =>
  go_enter Tryz.func141,Tryz.ntmps141
  go_wp2
  go_ret
  exact retRng2_new w 0 5 rfl
 | 1,_ =>
  go_enter Tryz.func141,Tryz.ntmps141
  go_wp2
  go_ret
  exact retRng2_new w 1 3 rfl
 | 2,_ =>
  go_enter Tryz.func141,Tryz.ntmps141
  go_wp2
  go_ret
  exact retRng2_new w 2 15 rfl
 | 3,_ =>
  go_enter Tryz.func141,Tryz.ntmps141
  go_wp2
  go_ret
  exact retRng2_new w 3 18 rfl
 | 4,_ =>
  go_enter Tryz.func141,Tryz.ntmps141
  go_wp2
  go_ret
  exact retRng2_new w 4 1 rfl
 | 5,_ =>
  go_enter Tryz.func141,Tryz.ntmps141
  go_wp2
  go_ret
  exact retRng2_new w 5 3 rfl
end Go.Proofs.YtgjokdngbocehaaGreatDoor
namespace Go.Proofs.YtgjokdngbocehaaGreatDoor
open Go.RowKit
def anyR (l:List (Int × Int)) (r:Int):Bool:=l.any fun p=>decide (p.1 ≤ r) && decide (r ≤ p.2)
def rises:List (Int × Int) → Bool
 | []=>true
 | p :: l=>decide (p.1 ≤ p.2) && l.all (fun q=>decide (p.2 < q.1)) && rises l
theorem isR_any (l:List (Int × Int)) (r:Int):rises l = true → isR l r = anyR l r:=by
 induction l with
 | nil=>intro _;rfl
 | cons p l ih =>
  intro h
  simp only [rises,Bool.and_eq_true,decide_eq_true_eq,List.all_eq_true] at h
  obtain ⟨⟨h1,h2⟩,h3⟩:=h
  simp only [isR,anyR,List.any_cons]
  by_cases hr:r ≤ p.2
  ·rw [if_pos hr,decide_eq_true hr,Bool.and_true]
   have:(l.any fun p=>decide (p.1 ≤ r) && decide (r ≤ p.2)) = false:=by
    rw [List.any_eq_false]
    intro q hq
    have:=h2 q hq
    simp;intro _;omega
   rw [this,Bool.or_false]
  ·rw [if_neg hr,ih h3,decide_eq_false hr,Bool.and_false,Bool.false_or]
   rfl
theorem rng_rises:∀ c,c < 6 → rises (rng c) = true:=by decide
theorem isR_tail (l:List (Int × Int)) (r:Int) (k:Nat) (h:k < l.length):anyR (l.drop k) r = ((decide (l[k].1 ≤ r) && decide (r ≤ l[k].2)) || anyR (l.drop (k + 1)) r):=by
 rw [List.drop_eq_getElem_cons h];rfl
set_option maxRecDepth 100000 in
set_option maxHeartbeats 1000000 in
theorem Is2_any (c:Nat) (hc:c < 6) (r:Int) (w:World) :
  Calls Tryz.prog 112 #[.int .i64 c,.int .i64 r] w fun e w'=>e = .returned (.bool (isR (rng c) r)) ∧ Below w.heap.size w w':=by
 have hlen:(rng c).length ≤ 20:=by
  have:∀ c,c < 6 → (rng c).length ≤ 20:=by decide
  exact this c hc
 rw [isR_any _ _ (rng_rises c hc)]
 have HO:=Lib.hid (Ranges_any c hc w)
 go_enter Tryz.func112,Tryz.ntmps112
 go_wp2_with fail
 (with_reducible refine HO.out.mono ?_)
 rintro e w1 ⟨b,n,rfl,hn,hb,hbw,hcs⟩
 have HC:=Lib.hid hcs
 clear hcs HO
 generalize hl:rng c = l at *
 have HL:=Lib.hid hl
 clear hl
 have HN:=Lib.hid hn
 have hn20:n ≤ 20:=by omega
 clear hn hlen
 go_wp2_with fail
 go_loopw [10] (fun ix wr=>∃ k:Nat,ix = .int .i64 k ∧ k ≤ n ∧ Below w1.heap.size w1 wr ∧ Hid (anyR (l.drop k) r = anyR l r)) (fun ix _=>n - (intOf ix).toNat)
 case atStart=>exact ⟨0,rfl,Nat.zero_le _,Below.refl _ _,Lib.hid rfl⟩
 case round =>
  obtain ⟨k,rfl,hk,hbr,hr⟩:=hrel
  by_cases hkn:k < n
  ·have hkl:k < l.length:=by rw [← HN.out];exact hkn
   obtain ⟨e0,e1⟩:=HC.out k hkl
   have hd:=hr.out
   rw [isR_tail l r k hkl] at hd
   rw [← hbr.cell (p:=⟨b,k * 2,none⟩) hb] at e0
   rw [← hbr.cell (p:=⟨b,k * 2 + 1,none⟩) hb] at e1
   generalize l[k] = p at *
   obtain ⟨lo,hi⟩:=p
   simp only at e0 e1 hd
   have hws:w1.heap.size ≤ wr.heap.size:=hbr.size
   have HBW:=Lib.hid (hbw.trans (hbr.mono hbw.size))
   have HBR:=Lib.hid hbr
   have HD:=Lib.hid hd
   have hwz:w.heap.size ≤ wr.heap.size:=HBW.out.size
   clear hd hbr hr
   by_cases h1:lo ≤ r
   ·by_cases h2:r ≤ hi
    ·have HE:Hid (anyR l r = true):=Lib.hid (by rw [← HD.out,decide_eq_true h1,decide_eq_true h2];rfl)
     clear HD
     go_wp2_with fail
     go_ret
     exact ⟨ret_bool (by rw [HL.out];exact HE.out.symm),HBW.out.alloc hwz _⟩
    ·have HE:Hid (anyR (l.drop (k + 1)) r = anyR l r):=Lib.hid (by rw [← HD.out,decide_eq_false h2,Bool.and_false,Bool.false_or])
     clear HD
     go_wp2_with fail
     go_roundw
     case rel=>exact ⟨k + 1,by go_num,by omega,HBR.out.alloc hws _,HE⟩
     case measure=>simp [intOf];omega
   ·have HE:Hid (anyR (l.drop (k + 1)) r = anyR l r):=Lib.hid (by rw [← HD.out,decide_eq_false h1,Bool.false_and,Bool.false_or])
    clear HD
    go_wp2_with fail
    go_roundw
    case rel=>exact ⟨k + 1,by go_num,by omega,HBR.out.alloc hws _,HE⟩
    case measure=>simp [intOf];omega
  ·have HE:Hid (anyR l r = false):=Lib.hid (by rw [← hr.out,List.drop_of_length_le (by rw [← HN.out];omega)];rfl)
   clear hr
   have hfin:=hbw.trans (hbr.mono hbw.size)
   clear hbr
   go_wp2_with fail
   go_ret
   exact ⟨ret_bool (by rw [HL.out];exact HE.out.symm),hfin⟩
end Go.Proofs.YtgjokdngbocehaaGreatDoor
