/-
  gimletref02: Read, All, Texts.
-/
import Derived.Test.YtgjokdngbocehaaGreatDoorHsA
import Derived.Test.YtgjokdngbocehaaGreatDoorHsC
import Derived.Test.YtgjokdngbocehaaGreatDoorHsD
import Derived.Test.YtgjokdngbocehaaGreatDoorHsE
import Derived.Test.YtgjokdngbocehaaGreatDoorHsG
import Derived.Test.YtgjokdngbocehaaGreatDoorHsI
namespace Go.Proofs.YtgjokdngbocehaaGreatDoor
open Go.RowKit
theorem readR_succ (l:List UInt8) (f n:Nat):readR l (f + 1) n = if n ≤ 4 ∧ n ≤ l.length then (if hitN l n = true then (if surr (spanL (l.take n)).1 = true then (0,0) else ((spanL (l.take n)).1,n)) else readR l f (n + 1)) else (0,0):=rfl
def cvOp:Op:=Op.convert 136 9 (Operand.tmp 37)
theorem cvOp_eq:cvOp = Op.convert 136 9 (Operand.tmp 37):=rfl
set_option maxRecDepth 1000000 in
set_option maxHeartbeats 4000000 in
theorem Read2_any (l:List UInt8) (hl:l.length ≤ 8388608) (k:Nat) (hk:k ≤ l.length) (w:World) :
  Calls Tryz.prog 111 #[.string (strU l),.int .i64 k] w fun e w'=>RetSp e (readR (l.drop k) 4 1) ∧ Below w.heap.size w w':=by
 obtain ⟨N,hN⟩:∃ N,N = l.length:=⟨_,rfl⟩
 have hsz:(strU l).size = N:=by rw [strU_size,hN]
 have HDL:Hid ((l.drop k).length = N - k):=Lib.hid (by rw [List.length_drop,hN])
 have HEX:Hid (∀ n,(strU l).extract k (k + n) = strU ((l.drop k).take n)):=Lib.hid fun n=>by rw [extU,Nat.add_sub_cancel_left]
 rw [← hN] at hl hk
 clear hN
 generalize hS:strU l = S at *
 generalize l.drop k = d at *
 clear hS
 go_enter Tryz.func111,Tryz.ntmps111
 go_wp2_with fail
 go_loopw [6] (fun nv wr=>∃ n f:Nat,nv = .int .i64 n ∧ f + n = 5 ∧ 1 ≤ n ∧ Below w.heap.size w wr ∧ Hid (readR d f n = readR d 4 1)) (fun nv _=>5 - (intOf nv).toNat)
 case atStart=>exact ⟨1,4,rfl,rfl,Nat.le_refl _,Below.refl _ _,rfl⟩
 case round =>
  obtain ⟨n,f,rfl,hfn,hn1,hbr,hr⟩:=hrel
  by_cases h4:n ≤ 4
  ·by_cases hkn:k + n ≤ N
   ·obtain ⟨f,rfl⟩:∃ g,f = g + 1:=⟨f - 1,by omega⟩
    have hd:=hr.out
    rw [readR_succ,if_pos ⟨h4,by rw [HDL.out];omega⟩] at hd
    have hex:=HEX.out n
    have hcv:=fun W=>Lib.run_convert_string_bytes (P:=Tryz.prog) W 9 136 5 (strU (d.take n)) Tryz.underlying9 Tryz.underlying136 Tryz.underlying5
    have hWb:=bytesW_below wr 5 (strU (d.take n))
    have HB2:=Lib.hid (hbr.trans (hWb.mono hbr.size))
    have HSP:=Lib.hid (Span_any _ _ _ (d.take n) _ (bytesW_sl wr 5 (strU (d.take n))) (grownCap_ge wr _ 0 5))
    have hsame:=span_same (d.take n)
    have ew:IntKind.i64.wrap ((k:Int) + (n:Int)) = ((k + n:Nat):Int):=by rw [IntWalk.i64_in _ (by omega)];omega
    clear hWb hbr hr
    unfold hitN at hd
    generalize spanL (d.take n) = p at *
    obtain ⟨p1,p2⟩:=p
    simp only at hd hsame
    have it:((k:Int) + (n:Int)).toNat = k + n:=by omega
    have i1:(0:Int) ≤ (k:Int):=by omega
    have i2:(k:Int) ≤ ((k + n:Nat):Int):=by omega
    have i3:((k + n:Nat):Int) ≤ (N:Int):=by omega
    have i4:(k:Int) ≤ (k:Int) + (n:Int):=by omega
    have i5:(k:Int) + (n:Int) ≤ (N:Int):=by omega
    by_cases hpp:p1 = p2
    ·subst hpp
     have hp1:=hsame rfl
     have HBY:=Lib.hid (Bytes_any p1 hp1)
     have tq:((p1:Int) == (p1:Int)) = true:=by simp
     by_cases hcm:encU p1 = d.take n
     ·have hc:=cmpU_eq hcm
      have hd2:(if surr p1 = true then (0,0) else (p1,n)) = readR d 4 1:=by rw [← hd,hcm];simp
      have HD:=Lib.hid hd2
      clear hd hd2 hsame hcm
      generalize strU (d.take n) = X at *
      go_wp2_with fail
      (with_reducible refine HSP.out.mono ?_)
      rintro e w4 ⟨rfl,rfl⟩
      generalize Lib.bytesWorld wr 5 X = w4 at *
      go_wp2_with fail
      have hS7d:Below w.heap.size w w4.drew:=HB2.out.drew
      rw [← cvOp_eq]
      have hcvo:=cvOp_eq
      go_region_held3 (fun w'=>Below w.heap.size w w') (first | exact ‹_› | go_keep) (first | (go_at_call 140;(with_reducible refine (HBY.out _).mono ?_);rintro e wz ⟨⟨a5,n5,c5,rfl,hsl⟩,hbz⟩;have hbz2:=(‹Below w.heap.size w _›).trans (hbz.mono (by have:=HB2.out.size;simp at this ⊢;omega));have hcb:=run_bytes_str (P:=Tryz.prog) (s:=strU (encU p1)) hsl 136 9 5 Tryz.underlying136 Tryz.underlying5 Tryz.underlying9 c5))
      clear hbz hsl hcb hcvo
      by_cases hs:surr p1 = true
      ·have HE:Hid ((0,0) = readR d 4 1):=Lib.hid (by rw [← HD.out,if_pos hs])
       unfold surr at hs
       simp only [decide_eq_true_eq] at hs
       obtain ⟨hs1,hs2⟩:=hs
       go_wp2_with fail
       go_ret2
       exact ⟨by rw [← HE.out];rfl,hbz2⟩
      ·have HE:Hid ((p1,n) = readR d 4 1):=Lib.hid (by rw [← HD.out,if_neg hs])
       unfold surr at hs
       simp only [decide_eq_true_eq] at hs
       by_cases hs1:55296 ≤ p1
       ·have hs2:57343 < p1:=by omega
        go_wp2_with fail
        go_ret2
        exact ⟨by rw [← HE.out];rfl,hbz2⟩
       ·have hs2:p1 < 55296:=by omega
        go_wp2_with fail
        go_ret2
        exact ⟨by rw [← HE.out];rfl,hbz2⟩
     ·have hc:=cmpU_ne hcm
      have hd2:readR d f (n + 1) = readR d 4 1:=by rw [← hd,if_neg (by simp [hcm])]
      have HD:=Lib.hid hd2
      clear hd hd2 hsame hcm
      generalize strU (d.take n) = X at *
      go_wp2_with fail
      (with_reducible refine HSP.out.mono ?_)
      rintro e w4 ⟨rfl,rfl⟩
      generalize Lib.bytesWorld wr 5 X = w4 at *
      go_wp2_with fail
      have hS7d:Below w.heap.size w w4.drew:=HB2.out.drew
      rw [← cvOp_eq]
      have hcvo:=cvOp_eq
      go_region_held3 (fun w'=>Below w.heap.size w w') (first | exact ‹_› | go_keep) (first | (go_at_call 140;(with_reducible refine (HBY.out _).mono ?_);rintro e wz ⟨⟨a5,n5,c5,rfl,hsl⟩,hbz⟩;have hbz2:=(‹Below w.heap.size w _›).trans (hbz.mono (by have:=HB2.out.size;simp at this ⊢;omega));have hcb:=run_bytes_str (P:=Tryz.prog) (s:=strU (encU p1)) hsl 136 9 5 Tryz.underlying136 Tryz.underlying5 Tryz.underlying9 c5))
      clear hbz hsl hcb hcvo
      go_wp2_with fail
      go_roundw
      case rel=>exact ⟨n + 1,f,by go_num,by omega,by omega,hbz2,HD⟩
      case measure=>simp [intOf];omega
    ·have tq:((p1:Int) == (p2:Int)) = false:=by simp;omega
     have hd2:readR d f (n + 1) = readR d 4 1:=by rw [← hd,if_neg (by simp [hpp])]
     have HD:=Lib.hid hd2
     clear hd hd2 hsame hpp
     generalize strU (d.take n) = X at *
     go_wp2_with fail
     (with_reducible refine HSP.out.mono ?_)
     rintro e w4 ⟨rfl,rfl⟩
     generalize Lib.bytesWorld wr 5 X = w4 at *
     go_wp2_with fail
     go_quiet (fail)
     go_wp2_with fail
     go_roundw
     case rel=>exact ⟨n + 1,f,by go_num,by omega,by omega,Below.drewN HB2.out _,HD⟩
     case measure=>simp [intOf];omega
   ·have hd:=hr.out
    have hkn2:N < k + n:=by omega
    obtain ⟨f,rfl⟩:∃ g,f = g + 1:=⟨f - 1,by omega⟩
    rw [readR_succ,if_neg (by rw [HDL.out];omega)] at hd
    have HE:=Lib.hid hd
    clear hd hr hkn
    go_wp2_with fail
    go_ret2
    exact ⟨by rw [← HE.out];rfl,hbr⟩
  ·have h5:5 ≤ n:=by omega
   obtain rfl:f = 0:=by omega
   have HE:Hid ((0,0) = readR d 4 1):=Lib.hid hr.out
   clear hr h4
   go_wp2_with fail
   go_ret2
   exact ⟨by rw [← HE.out];rfl,hbr⟩
end Go.Proofs.YtgjokdngbocehaaGreatDoor
namespace Go.Proofs.YtgjokdngbocehaaGreatDoor
open Go.RowKit
theorem textsR_succ (f:Nat) (l:List UInt8):textsR (f + 1) l = if l = [] then true else if (readR l 4 1).2 = 0 ∨ isR (rng 0) (readR l 4 1).1 = false then false else textsR f (l.drop (readR l 4 1).2):=rfl
theorem readR_le (l:List UInt8):∀ f n,(readR l f n).2 ≤ l.length
 | 0,_=>Nat.zero_le _
 | f + 1,n=>by
  rw [readR_succ]
  split
  ·split
   ·split
    ·exact Nat.zero_le _
    ·rename_i h _ _;exact h.2
   ·exact readR_le l f (n + 1)
  ·exact Nat.zero_le _
theorem textsR_nil (f:Nat):textsR f [] = true:=by cases f <;> rfl
set_option maxRecDepth 100000 in
set_option maxHeartbeats 4000000 in
theorem All2_any (l:List UInt8) (hl:l.length ≤ 8388608) (w:World) :
  Calls Tryz.prog 85 #[.string (strU l),.int .i64 0,.int .i64 0] w fun e w'=>e = .returned (.bool (textsB l)) ∧ Below w.heap.size w w':=by
 rw [← textsR_eq l.length l (Nat.le_refl _)]
 obtain ⟨N,hN⟩:∃ N,N = l.length:=⟨_,rfl⟩
 have hsz:(strU l).size = N:=by rw [strU_size,hN]
 have HRD:Hid (∀ (k:Nat) (W:World),k ≤ N → Calls Tryz.prog 111 #[.string (strU l),.int .i64 k] W fun e w'=>RetSp e (readR (l.drop k) 4 1) ∧ Below W.heap.size W w'):=Lib.hid fun k W hk=>Read2_any l hl k (by omega) W
 have HDL:Hid (∀ k,(l.drop k).length = N - k):=Lib.hid fun k=>by rw [List.length_drop,hN]
 have HIS:Hid (∀ (r:Nat) W,Calls Tryz.prog 112 #[.int .i64 0,.int .i64 r] W fun e w'=>e = .returned (.bool (isR (rng 0) r)) ∧ Below W.heap.size W w'):=Lib.hid fun r W=>Is2_any 0 (by decide) r W
 rw [← hN] at hl ⊢
 clear hN
 generalize hT:textsR N l = T at *
 have HT:=Lib.hid hT
 clear hT
 generalize strU l = S at *
 go_enter Tryz.func85,Tryz.ntmps85
 go_wp2_with fail
 go_loopw [7,8] (fun cv av wr=>cv = .int .i64 0 ∧ ∃ k:Nat,av = .int .i64 k ∧ k ≤ N ∧ Below w.heap.size w wr ∧ Hid (textsR (N - k) (l.drop k) = T)) (fun _ av _=>N - (intOf av).toNat)
 case atStart=>exact ⟨rfl,0,rfl,Nat.zero_le _,Below.refl _ _,Lib.hid (by rw [Nat.sub_zero,List.drop_zero];exact HT.out)⟩
 case round =>
  obtain ⟨rfl,k,rfl,hk,hbr,hr⟩:=hrel
  by_cases hkN:k < N
  ·have hd:=hr.out
   have hlen:=HDL.out k
   rw [show N - k = (N - (k + 1)) + 1 by omega,textsR_succ,if_neg (by intro h;rw [h] at hlen;simp at hlen;omega)] at hd
   have HRK:=Lib.hid (HRD.out k wr hk)
   have hle:=readR_le (l.drop k) 4 1
   rw [hlen] at hle
   generalize hp:readR (l.drop k) 4 1 = p at *
   clear hp
   obtain ⟨r,n⟩:=p
   simp only at hd hle
   clear hr hlen
   by_cases hn:n = 0
   ·subst hn
    have HE:Hid (T = false):=Lib.hid (by rw [← hd,if_pos (.inl rfl)])
    clear hd
    go_wp2_with fail
    (with_reducible refine HRK.out.mono ?_)
    rintro e w1 ⟨rfl,hb1⟩
    go_wp2_with fail
    go_ret
    exact ⟨ret_bool (by rw [HE.out]),hbr.trans (hb1.mono hbr.size)⟩
   ·have hn0:((n:Int) == 0) = false:=by simp;omega
    cases hi:isR (rng 0) r with
    | false =>
     have HE:Hid (T = false):=Lib.hid (by rw [← hd,if_pos (.inr hi)])
     have HII:=Lib.hid (HIS.out r)
     rw [hi] at HII
     clear hd hi
     go_wp2_with fail
     (with_reducible refine HRK.out.mono ?_)
     rintro e w1 ⟨rfl,hb1⟩
     have hb1:=hbr.trans (hb1.mono hbr.size)
     go_wp2_with fail
     (with_reducible refine (HII.out _).mono ?_)
     rintro e w2 ⟨rfl,hb2⟩
     go_wp2_with fail
     go_ret
     exact ⟨ret_bool (by rw [HE.out]),hb1.trans (hb2.mono hb1.size)⟩
    | true =>
     have hd2:textsR (N - (k + 1)) (l.drop (k + n)) = T:=by
      rw [if_neg (by rw [hi];simp;omega),List.drop_drop] at hd
      exact hd
     have hd3:textsR (N - (k + n)) (l.drop (k + n)) = T:=by
      rw [← hd2,textsR_eq _ _ (by rw [HDL.out];exact Nat.le_refl _),textsR_eq _ _ (by rw [HDL.out];omega)]
     have HE:=Lib.hid hd3
     have HII:=Lib.hid (HIS.out r)
     rw [hi] at HII
     clear hd hd2 hd3 hi
     go_wp2_with fail
     (with_reducible refine HRK.out.mono ?_)
     rintro e w1 ⟨rfl,hb1⟩
     have hb1:=hbr.trans (hb1.mono hbr.size)
     go_wp2_with fail
     (with_reducible refine (HII.out _).mono ?_)
     rintro e w2 ⟨rfl,hb2⟩
     have hb2:=hb1.trans (hb2.mono hb1.size)
     go_wp2_with fail
     go_roundw
     case rel=>exact ⟨rfl,k + n,by go_num,by omega,hb2,HE⟩
     case measure=>simp [intOf];omega
  ·have hkN2:N ≤ k:=by omega
   have hd:=hr.out
   have HE:Hid (T = true):=Lib.hid (by rw [← hd,List.eq_nil_of_length_eq_zero (l:=l.drop k) (by rw [HDL.out];omega),textsR_nil])
   clear hd hr hkN
   go_wp2_with fail
   go_ret
   exact ⟨ret_bool (by rw [HE.out]),hbr⟩
theorem Texts2_any (l:List UInt8) (hl:l.length ≤ 8388608) (w:World) :
  Calls Tryz.prog 53 #[.string (strU l)] w fun e w'=>e = .returned (.bool (textsB l)) ∧ Below w.heap.size w w':=by
 have HA:=Lib.hid (All2_any l hl w)
 generalize strU l = S at *
 go_enter Tryz.func53,Tryz.ntmps53
 go_wp2_with fail
 (with_reducible refine HA.out.mono ?_)
 rintro e w1 ⟨rfl,hb1⟩
 go_wp2_with fail
 go_ret
 exact ⟨rfl,hb1⟩
end Go.Proofs.YtgjokdngbocehaaGreatDoor
namespace Go.Proofs.YtgjokdngbocehaaGreatDoor
open Go.RowKit
set_option maxRecDepth 100000 in
set_option maxHeartbeats 4000000 in
theorem AllC_any (c:Nat) (hc:c < 6) (l:List UInt8) (hl:l.length ≤ 8388608) (w:World) :
  Calls Tryz.prog 85 #[.string (strU l),.int .i64 c,.int .i64 3] w fun e w'=>e = .returned (.bool (allC l.length c l)) ∧ Below w.heap.size w w':=by
 obtain ⟨N,hN⟩:∃ N,N = l.length:=⟨_,rfl⟩
 have hsz:(strU l).size = N:=by rw [strU_size,hN]
 have HRD:Hid (∀ (k:Nat) (W:World),k ≤ N → Calls Tryz.prog 111 #[.string (strU l),.int .i64 k] W fun e w'=>RetSp e (readR (l.drop k) 4 1) ∧ Below W.heap.size W w'):=Lib.hid fun k W hk=>Read2_any l hl k (by omega) W
 have HDL:Hid (∀ k,(l.drop k).length = N - k):=Lib.hid fun k=>by rw [List.length_drop,hN]
 have HIS:Hid (∀ (cc r:Nat) W,cc < 6 → Calls Tryz.prog 112 #[.int .i64 cc,.int .i64 r] W fun e w'=>e = .returned (.bool (isR (rng cc) r)) ∧ Below W.heap.size W w'):=Lib.hid fun cc r W h=>Is2_any cc h r W
 rw [← hN] at hl ⊢
 clear hN
 generalize hT:allC N c l = T at *
 have HT:=Lib.hid hT
 clear hT
 generalize strU l = S at *
 go_enter Tryz.func85,Tryz.ntmps85
 go_wp2_with fail
 go_loopw [7,8] (fun cv av wr=>∃ cc k:Nat,cv = .int .i64 cc ∧ cc < 6 ∧ av = .int .i64 k ∧ k ≤ N ∧ Below w.heap.size w wr ∧ Hid (allC (N - k) cc (l.drop k) = T)) (fun _ av _=>N - (intOf av).toNat)
 case atStart=>exact ⟨c,0,rfl,hc,rfl,Nat.zero_le _,Below.refl _ _,Lib.hid (by rw [Nat.sub_zero,List.drop_zero];exact HT.out)⟩
 case round =>
  obtain ⟨cc,k,rfl,hcc,rfl,hk,hbr,hr⟩:=hrel
  by_cases hkN:k < N
  ·have hd:=hr.out
   have hlen:=HDL.out k
   rw [show N - k = (N - (k + 1)) + 1 by omega,allC_succ,if_neg (by intro h;rw [h] at hlen;simp at hlen;omega)] at hd
   have HRK:=Lib.hid (HRD.out k wr hk)
   have hle:=readR_le (l.drop k) 4 1
   rw [hlen] at hle
   generalize hp:readR (l.drop k) 4 1 = p at *
   clear hp
   obtain ⟨r,n⟩:=p
   simp only at hd hle
   clear hr hlen
   have HCC:=Lib.hid hcc
   by_cases hn:n = 0
   ·subst hn
    have HE:Hid (T = false):=Lib.hid (by rw [← hd,if_pos (.inl rfl)])
    clear hd
    go_wp2_with fail
    (with_reducible refine HRK.out.mono ?_)
    rintro e w1 ⟨rfl,hb1⟩
    go_wp2_with fail
    go_ret
    exact ⟨ret_bool (by rw [HE.out]),hbr.trans (hb1.mono hbr.size)⟩
   ·have hn0:((n:Int) == 0) = false:=by simp;omega
    cases hi:isR (rng cc) r with
    | false =>
     have HE:Hid (T = false):=Lib.hid (by rw [← hd,if_pos (.inr hi)])
     have HII:=Lib.hid (fun W=>HIS.out cc r W HCC.out)
     rw [hi] at HII
     clear hd hi
     go_wp2_with fail
     (with_reducible refine HRK.out.mono ?_)
     rintro e w1 ⟨rfl,hb1⟩
     have hb1:=hbr.trans (hb1.mono hbr.size)
     go_wp2_with fail
     (with_reducible refine (HII.out _).mono ?_)
     rintro e w2 ⟨rfl,hb2⟩
     go_wp2_with fail
     go_ret
     exact ⟨ret_bool (by rw [HE.out]),hb1.trans (hb2.mono hb1.size)⟩
    | true =>
     have hd2:allC (N - (k + 1)) 3 (l.drop (k + n)) = T:=by
      rw [if_neg (by rw [hi];simp;omega),List.drop_drop] at hd
      exact hd
     have hd3:allC (N - (k + n)) 3 (l.drop (k + n)) = T:=by
      rw [← hd2]
      exact allC_fuel _ _ _ _ (by rw [HDL.out];exact Nat.le_refl _) (by rw [HDL.out];omega)
     have HE:=Lib.hid hd3
     have HII:=Lib.hid (fun W=>HIS.out cc r W HCC.out)
     rw [hi] at HII
     clear hd hd2 hd3 hi
     go_wp2_with fail
     (with_reducible refine HRK.out.mono ?_)
     rintro e w1 ⟨rfl,hb1⟩
     have hb1:=hbr.trans (hb1.mono hbr.size)
     go_wp2_with fail
     (with_reducible refine (HII.out _).mono ?_)
     rintro e w2 ⟨rfl,hb2⟩
     have hb2:=hb1.trans (hb2.mono hb1.size)
     go_wp2_with fail
     go_roundw
     case rel=>exact ⟨3,k + n,rfl,by decide,by go_num,by omega,hb2,HE⟩
     case measure=>simp [intOf];omega
  ·have hkN2:N ≤ k:=by omega
   have hd:=hr.out
   have HE:Hid (T = true):=Lib.hid (by rw [← hd,List.eq_nil_of_length_eq_zero (l:=l.drop k) (by rw [HDL.out];omega),allC_nil])
   clear hd hr hkN
   go_wp2_with fail
   go_ret
   exact ⟨ret_bool (by rw [HE.out]),hbr⟩
set_option maxRecDepth 100000 in
theorem Name2_any (l:List UInt8) (hl:l.length ≤ 8388608) (w:World) :
  Calls Tryz.prog 51 #[.string (strU l)] w fun e w'=>e = .returned (.bool (nameB l)) ∧ Below w.heap.size w w':=by
 rw [nameB_ref]
 have HA:Hid (Calls Tryz.prog 85 #[.string (strU l),.int .i64 2,.int .i64 3] w fun e w'=>e = .returned (.bool (allC l.length 2 l)) ∧ Below w.heap.size w w'):=Lib.hid (AllC_any 2 (by decide) l hl w)
 have he:=strU_empty l
 generalize allC l.length 2 l = T at *
 generalize strU l = S at *
 generalize hE:l.isEmpty = E at *
 clear hE
 cases E with
 | true =>
  go_enter Tryz.func51,Tryz.ntmps51
  go_wp2_with fail
  go_ret
  exact ⟨rfl,Below.refl _ _⟩
 | false =>
  go_enter Tryz.func51,Tryz.ntmps51
  go_wp2_with fail
  (with_reducible refine HA.out.mono ?_)
  rintro e w1 ⟨rfl,hb1⟩
  go_wp2_with fail
  go_ret
  exact ⟨ret_bool (by simp),hb1⟩
end Go.Proofs.YtgjokdngbocehaaGreatDoor
namespace Go.Proofs.YtgjokdngbocehaaGreatDoor
open Go.RowKit
theorem attrsB_cons (q:Option (List UInt8)) (p:List UInt8 × List UInt8) (r:List (List UInt8 × List UInt8)) :
  attrsB q (p :: r) = (nameB p.1 && textsB p.2 && (match q with | none=>true | some q=>Op.bytesLess q p.1) && attrsB (some p.1) r):=rfl
def prevN (ats:List (List UInt8 × List UInt8)) (k:Nat):Option (List UInt8):=if k = 0 then none else (ats[k - 1]?).map (·.1)
set_option maxRecDepth 1000000 in
set_option maxHeartbeats 4000000 in
theorem attrs9_any (a:Option Addr) (n c:Nat) (ats:List (List UInt8 × List UInt8)) (w:World) (hA:AttrsAt w a n ats) (hl:∀ p ∈ ats,p.1.length ≤ 1048576 ∧ p.2.length ≤ 1048576) (hn:n ≤ 1048576) :
  Calls Tryz.prog 52 #[.slice a n c] w fun e w'=>e = .returned (.bool (attrsB none ats)) ∧ Below w.heap.size w w':=by
 have HNM:Hid (∀ (l:List UInt8) (W:World),l.length ≤ 1048576 → Calls Tryz.prog 51 #[.string (strL l)] W fun e w'=>e = .returned (.bool (nameB l)) ∧ Below W.heap.size W w'):=Lib.hid fun l W h=>Name2_any l (by omega) W
 have HTX:Hid (∀ (l:List UInt8) (W:World),l.length ≤ 1048576 → Calls Tryz.prog 53 #[.string (strL l)] W fun e w'=>e = .returned (.bool (textsB l)) ∧ Below W.heap.size W w'):=Lib.hid fun l W h=>Texts2_any l (by omega) W
 have HCM:Hid (∀ (l m:List UInt8) (W:World),l.length ≤ 1048576 → m.length ≤ 1048576 → nameB l = true → nameB m = true → Calls Tryz.prog 86 #[.string (strL l),.string (strL m)] W fun e w'=>e = .returned (.int .i64 (if Op.bytesLess l m = true then -1 else if Op.bytesLess m l = true then 1 else 0)) ∧ Below W.heap.size W w'):=Lib.hid fun l m W h1 h2 h3 h4=>by
  have h:=Cmp3_any (strU l) (strU m) W (by rw [strU_size];exact h1) (by rw [strU_size];exact h2)
  rw [name_cmp l m h3 h4] at h
  exact h
 have HN:Hid (n = ats.length):=Lib.hid hA.1
 have HA:=Lib.hid hA.2
 have HL:=Lib.hid hl
 clear hA hl
 obtain ⟨T,hT⟩:∃ T,attrsB none ats = T:=⟨_,rfl⟩
 rw [hT]
 have HT:=Lib.hid hT
 clear hT
 go_enter Tryz.func52,Tryz.ntmps52
 go_wp2_with fail
 go_loopw [3] (fun iv wr=>∃ k:Nat,iv = .int .i64 k ∧ k ≤ n ∧ Below w.heap.size w wr ∧ Hid (attrsB (prevN ats k) (ats.drop k) = T) ∧ Hid (k = 0 ∨ ∃ h:k - 1 < ats.length,nameB (ats[k - 1]).1 = true)) (fun iv _=>n - (intOf iv).toNat)
 case atStart=>exact ⟨0,rfl,Nat.zero_le _,Below.refl _ _,HT,Lib.hid (.inl rfl)⟩
 case round =>
  obtain ⟨k,rfl,hk,hbr,hr,hpv⟩:=hrel
  by_cases hkn:k < n
  ·have hkl:k < ats.length:=by rw [← HN.out];exact hkn
   obtain ⟨b,o,rfl,hb,c0,c1⟩:=HA.out k hkl
   have hd:=hr.out
   have hlk:=HL.out _ (List.getElem_mem hkl)
   have e0:=(hbr.cell (p:=⟨b,o + k * 2,none⟩) hb).trans c0
   have HC1:=Lib.hid c1
   have HC0:=Lib.hid c0
   rw [List.drop_eq_getElem_cons hkl,attrsB_cons] at hd
   have hpk:prevN ats (k + 1) = some (ats[k]).1:=by
    unfold prevN
    rw [if_neg (by omega),Nat.add_sub_cancel,List.getElem?_eq_getElem hkl]
    rfl
   have HPK:=Lib.hid hpk
   have HPV:Hid (k = 0 ∨ ∃ (q:List UInt8),prevN ats k = some q ∧ nameB q = true ∧ q.length ≤ 1048576 ∧ ∀ W,Below w.heap.size w W → W.cell? ⟨b,o + (k - 1) * 2,none⟩ = some (.string (strL q))):=Lib.hid (by
    rcases hpv.out with h | ⟨h,hq⟩
    ·exact .inl h
    ·by_cases h0:k = 0
     ·exact .inl h0
     ·right
      refine ⟨(ats[k - 1]).1,?_,hq,(HL.out _ (List.getElem_mem h)).1,fun W hW=>?_⟩
      ·unfold prevN
       rw [if_neg h0,List.getElem?_eq_getElem h]
       rfl
      ·obtain ⟨b',o',he,_,c0',_⟩:=HA.out (k - 1) h
       injection he with he
       injection he with he1 he2
       subst he1 he2
       exact (hW.cell (p:=⟨b,o + (k - 1) * 2,none⟩) hb).trans c0')
   clear hpk c0 c1 hr hpv
   have HB:=Lib.hid hb
   generalize hp:ats[k] = p at *
   have HP0:=Lib.hid hp
   clear hp
   obtain ⟨nm,vl⟩:=p
   simp only at hd hlk e0 HC0 HC1 HPK
   obtain ⟨hnl,hvl⟩:=hlk
   have HNK:=Lib.hid (HNM.out nm wr hnl)
   have HBR:=Lib.hid hbr
   clear hbr
   cases h1:nameB nm with
   | false =>
    rw [h1] at HNK
    have HE:Hid (T = false):=Lib.hid (by rw [← hd,h1];rfl)
    clear hd h1
    go_wp2_with fail
    (with_reducible refine HNK.out.mono ?_)
    rintro e w1 ⟨rfl,hb1⟩
    go_wp2_with fail
    go_ret
    exact ⟨ret_bool (by rw [HE.out]),HBR.out.trans (hb1.mono HBR.out.size)⟩
   | true =>
    rw [h1] at HNK
    have HTK:=Lib.hid (fun W=>HTX.out vl W hvl)
    cases h2:textsB vl with
    | false =>
     rw [h2] at HTK
     have HE:Hid (T = false):=Lib.hid (by rw [← hd,h1,h2];rfl)
     clear hd h1 h2
     go_wp2_with fail
     (with_reducible refine HNK.out.mono ?_)
     rintro e w1 ⟨rfl,hb1⟩
     have hb1:=HBR.out.trans (hb1.mono HBR.out.size)
     have e1:=(hb1.cell (p:=⟨b,o + k * 2 + 1,none⟩) HB.out).trans HC1.out
     go_wp2_with fail
     (with_reducible refine (HTK.out _).mono ?_)
     rintro e w2 ⟨rfl,hb2⟩
     go_wp2_with fail
     go_ret
     exact ⟨ret_bool (by rw [HE.out]),hb1.trans (hb2.mono hb1.size)⟩
    | true =>
     rw [h2] at HTK
     rw [h1,h2,Bool.true_and,Bool.true_and] at hd
     have HNMK:=Lib.hid h1
     have HD:=Lib.hid hd
     clear hd h2 h1
     go_wp2_with fail
     (with_reducible refine HNK.out.mono ?_)
     rintro e w1 ⟨rfl,hb1⟩
     have hb1:=HBR.out.trans (hb1.mono HBR.out.size)
     have e1:=(hb1.cell (p:=⟨b,o + k * 2 + 1,none⟩) HB.out).trans HC1.out
     clear HBR HNK e0
     go_wp2_with fail
     (with_reducible refine (HTK.out _).mono ?_)
     rintro e w2 ⟨rfl,hb2⟩
     have hb2:=hb1.trans (hb2.mono hb1.size)
     have HB2:=Lib.hid hb2
     clear hb1 e1 hb2 HTK
     go_wp2_with fail
     rcases HPV.out with hk0 | ⟨q,hq,hqn,hql,hcell⟩
     ·have hk9:decide ((0:Int) < (k:Int)) = false:=by simp;omega
      have hk8:decide (0 < k) = false:=by simp;omega
      have HD2:Hid (attrsB (some nm) (ats.drop (k + 1)) = T):=Lib.hid (by
       have:=HD.out
       rw [show prevN ats k = none by unfold prevN;rw [if_pos hk0]] at this
       simpa using this)
      subst hk0
      clear HD HPV hk9 hk8
      rw [show ((0:Nat):Int) = 0 from rfl]
      go_quiet (fail)
      go_wp2_with fail
      go_roundw
      case rel=>exact ⟨0 + 1,by go_num,by omega,Below.drewN HB2.out _,by rw [HPK.out];exact HD2,Lib.hid (.inr ⟨by have:=HN.out;omega,by simp only [Nat.add_sub_cancel];rw [HP0.out];exact HNMK.out⟩)⟩
      case measure=>simp [intOf];omega
     ·obtain ⟨j,hj⟩:∃ j,k = j + 1:=⟨k - 1,by
       rcases Nat.eq_zero_or_pos k with h | h
       ·rw [h] at hq;simp [prevN] at hq
       ·omega⟩
      have HJ:=Lib.hid hj
      rw [show k - 1 = j by omega] at hcell
      have hjk:j < k:=by omega
      have hk1:0 < k:=by omega
      have ew:IntKind.i64.wrap ((k:Int) - 1) = (j:Int):=by rw [IntWalk.i64_in _ (by omega)];omega
      have i1:(0:Int) ≤ (j:Int):=by omega
      have i2:(j:Int) < (n:Int):=by omega
      have i3:(k:Int) < (n:Int):=by omega
      have i4:(0:Int) ≤ (k:Int):=by omega
      have HCK:=Lib.hid (fun W=>HCM.out q nm W hql hnl hqn HNMK.out)
      have hd:=HD.out
      rw [hq] at hd
      simp only at hd
      clear HPV hj HD
      cases hbl:Op.bytesLess q nm with
      | true =>
       rw [hbl] at HCK hd
       rw [if_pos rfl] at HCK
       rw [Bool.true_and] at hd
       have HD2:Hid (attrsB (some nm) (ats.drop (k + 1)) = T):=Lib.hid hd
       clear hd hbl
       have hS:∀ W,Below w.heap.size w W → W.cell? ⟨b,o + j * 2,none⟩ = some (.string (strL q)) ∧ W.cell? ⟨b,o + k * 2,none⟩ = some (.string (strL nm)) ∧ Below w.heap.size w W:=fun W hW=>⟨hcell W hW,(hW.cell (p:=⟨b,o + k * 2,none⟩) HB.out).trans HC0.out,hW⟩
       have HS:=Lib.hid hS
       have hB2d:=HB2.out.drew
       clear hS hcell
       go_region_held3 (fun w'=>w'.cell? ⟨b,o + j * 2,none⟩ = some (.string (strL q)) ∧ w'.cell? ⟨b,o + k * 2,none⟩ = some (.string (strL nm)) ∧ Below w.heap.size w w') (first | exact HS.out _ ‹_› | go_keep) (first | (go_at_call 86;(with_reducible refine (HCK.out _).mono ?_);rintro e w3 ⟨rfl,hb3⟩;have hb4:=(‹Below w.heap.size w _›).trans (hb3.mono (‹Below w.heap.size w _›).size)))
       go_wp2_with fail
       go_roundw
       case rel=>exact ⟨k + 1,by go_num,by omega,hb4,by rw [HPK.out];exact HD2,Lib.hid (.inr ⟨by have:=HN.out;omega,by simp only [Nat.add_sub_cancel];rw [HP0.out];exact HNMK.out⟩)⟩
       case measure=>simp [intOf];omega
      | false =>
       rw [hbl] at HCK hd
       rw [if_neg (by simp)] at HCK
       have HE:Hid (T = false):=Lib.hid (by rw [← hd,Bool.false_and])
       obtain ⟨cv,hcv⟩:∃ cv:Int,cv = if Op.bytesLess nm q = true then 1 else 0:=⟨_,rfl⟩
       rw [← hcv] at HCK
       have hcv0:0 ≤ cv:=by rw [hcv];split <;> decide
       clear hd hbl hcv
       have hS:∀ W,Below w.heap.size w W → W.cell? ⟨b,o + j * 2,none⟩ = some (.string (strL q)) ∧ W.cell? ⟨b,o + k * 2,none⟩ = some (.string (strL nm)) ∧ Below w.heap.size w W:=fun W hW=>⟨hcell W hW,(hW.cell (p:=⟨b,o + k * 2,none⟩) HB.out).trans HC0.out,hW⟩
       have HS:=Lib.hid hS
       have hB2d:=HB2.out.drew
       clear hS hcell
       go_region_held3 (fun w'=>w'.cell? ⟨b,o + j * 2,none⟩ = some (.string (strL q)) ∧ w'.cell? ⟨b,o + k * 2,none⟩ = some (.string (strL nm)) ∧ Below w.heap.size w w') (first | exact HS.out _ ‹_› | go_keep) (first | (go_at_call 86;(with_reducible refine (HCK.out _).mono ?_);rintro e w3 ⟨rfl,hb3⟩;have hb4:=(‹Below w.heap.size w _›).trans (hb3.mono (‹Below w.heap.size w _›).size)))
       go_wp2_with fail
       go_ret
       exact ⟨ret_bool (by rw [HE.out]),hb4⟩
  ·have hd:=hr.out
   have HE:Hid (T = true):=Lib.hid (by rw [← hd,List.drop_of_length_le (by rw [← HN.out];omega)];rfl)
   have hkn2:n ≤ k:=by omega
   clear hd hr hkn
   go_wp2_with fail
   go_ret
   exact ⟨ret_bool (by rw [HE.out]),hbr⟩
end Go.Proofs.YtgjokdngbocehaaGreatDoor
namespace Go.Proofs.YtgjokdngbocehaaGreatDoor
open Go.RowKit
set_option maxRecDepth 100000 in
set_option maxHeartbeats 1000000 in
theorem Texts_any (l:List UInt8) (w:World) (hl:l.length ≤ 1073741824) (hR:RangesAt w 2) (hT:Lib.Utf8Tabs 0 1 w) :
  Calls Tryz.prog 78 #[.string (strU l)] w fun e w'=>e = .returned (.bool (textsB l)) ∧ Below w.heap.size w w':=by
 have HR:=Lib.hid hR
 have HT:=Lib.hid hT
 have HV:Hid (∀ W,Below w.heap.size w W → Calls Tryz.prog 106 #[.string (strU l)] W fun e w'=>e = .returned (.bool (Lib.validD l)) ∧ Below W.heap.size W w'):=Lib.hid fun W hW=>by
  have:=Valid_any (strU l) W (by rw [strU_size];omega) (Utf8Tabs_below HT.out hW)
  rw [strU_data] at this
  exact this
 have HI:Hid (∀ (r:Nat) W,Below w.heap.size w W → Calls Tryz.prog 105 #[.int .i64 0,.int .i32 r] W fun e w'=>e = .returned (.bool (isR (rng 0) r)) ∧ Below W.heap.size W w'):=Lib.hid fun r W hW=>Is_any 0 (by decide) r W (HR.out.below hW)
 have HD:Hid (∀ pos,decL (l.drop pos) = Utf8.decode (strU l) pos):=Lib.hid (decL_str l)
 have HE:Hid (textsB l = (okL l && Lib.validD l)):=Lib.hid rfl
 have HZ:Hid ((strU l).size = l.length):=Lib.hid (strU_size l)
 clear hR hT HR HT
 generalize Lib.validD l = V at *
 generalize textsB l = T at *
 generalize hS:strU l = S at *
 have HS:=Lib.hid hS
 clear hS
 go_enter Tryz.func78,Tryz.ntmps78
 go_wp2_with fail
 go_loopw [] (fun wr=>∃ pos,wr.heap[w.heap.size]? = some (.stringIter S pos) ∧ Below w.heap.size w wr ∧ Hid (okL (l.drop pos) = okL l)) (fun wr=>S.size - wr.iterPos w.heap.size)
 case atStart=>exact ⟨0,World.iter_heap _ _ _,(Below.refl _ _).alloc (Nat.le_refl _) _,rfl⟩
 case round =>
  obtain ⟨pos,hit,hbw,hr⟩:=hrel
  have hsz:w.heap.size < wr.heap.size:=(Array.getElem?_eq_some_iff.1 hit).1
  by_cases hp:pos < S.size
  ·have hnx:∀ ty,(Instr.next (.pointer (some ⟨w.heap.size,0,none⟩)) true ty).run Tryz.prog wr = _:=fun ty=>Lib.run_next_any_at wr w.heap.size S pos ty hit hp
   have hwd:=width_pos S pos hp
   have hst:=hr.out
   have hne:l.drop pos ≠ []:=by
    intro h
    have:=congrArg List.length h
    rw [List.length_drop] at this
    have:=HZ.out
    simp at *;omega
   rw [okL_step _ hne,List.drop_drop,HD.out pos] at hst
   have HST:=Lib.hid hst
   have HIT:=Lib.hid hit
   generalize hw2:wr.iterAt w.heap.size S (pos + (Utf8.decode S pos).2) = w2 at hnx
   have hit2:w2.heap[w.heap.size]? = some (.stringIter S (pos + (Utf8.decode S pos).2)):=by rw [← hw2];exact Lib.iterAt_heap wr w.heap.size S pos _ hit
   have hbw2:Below w.heap.size w w2:=by rw [← hw2];exact Lib.below_iterAt hbw (by omega) S _
   have hsz2:w2.heap.size = wr.heap.size:=by rw [← hw2,Lib.iterAt_size]
   clear hw2 hit hbw hst hne hr
   have HC:=Lib.hid (HI.out (Utf8.decode S pos).1 w2 hbw2)
   generalize (Utf8.decode S pos).1 = r at *
   generalize (Utf8.decode S pos).2 = wd at *
   cases hb:isR (rng 0) r with
   | false =>
    rw [hb] at HC HST
    go_wp2_with fail
    (with_reducible refine HC.out.mono ?_)
    rintro e w3 ⟨rfl,hb3⟩
    go_wp2_with fail
    go_ret
    exact ⟨ret_bool (by rw [HE.out,← HST.out];rfl),hbw2.trans (hb3.mono hbw2.size)⟩
   | true =>
    rw [hb] at HC HST
    go_wp2_with fail
    (with_reducible refine HC.out.mono ?_)
    rintro e w3 ⟨rfl,hb3⟩
    have hit3:=(hb3.block w.heap.size (by omega)).trans hit2
    go_wp2_with fail
    go_roundw
    case rel=>exact ⟨pos + wd,hit3,hbw2.trans (hb3.mono hbw2.size),by have:=HST.out;rw [Bool.true_and] at this;exact this⟩
    case measure =>
     have e1:w3.iterPos w.heap.size = pos + wd:=by unfold World.iterPos;rw [hit3]
     have e2:wr.iterPos w.heap.size = pos:=by unfold World.iterPos;rw [HIT.out]
     rw [e1,e2]
     omega
  ·have hnx:∀ ty,(Instr.next (.pointer (some ⟨w.heap.size,0,none⟩)) true ty).run Tryz.prog wr = _:=fun ty=>Lib.run_next_end_at wr w.heap.size S pos ty hit hp
   have hst:=hr.out
   rw [List.drop_of_length_le (by have:=HZ.out;omega)] at hst
   have HST:=Lib.hid hst
   clear hst hr
   go_wp2_with fail
   (with_reducible refine (HV.out _ hbw).mono ?_)
   rintro e w3 ⟨rfl,hb3⟩
   go_wp2_with fail
   go_ret
   exact ⟨ret_bool (by rw [HE.out,← HST.out];rfl),hbw.trans (hb3.mono hbw.size)⟩
end Go.Proofs.YtgjokdngbocehaaGreatDoor
namespace Go.Proofs.YtgjokdngbocehaaGreatDoor
open Go.RowKit
set_option maxRecDepth 1000000 in
set_option maxHeartbeats 4000000 in
theorem opens6_next (SInv:World → Prop) (eb ab b o m c k j:Nat) (hj:k = j + 1) (hkm:k < m) (hm:m ≤ 1048576) (nm vl q:ByteArray) (T:Bool) (hT:(!(Op.bytesLess q.toList nm.toList)) = T) (u0 u1 u2 u4 u7 u8 u9 u10 u11 u12 u13 u14 u15 u16 u17 u18 u19 u20 u21 u22 u23 u24 u25 u26 u27 u28 u29 u30 u31 u32 u33 u34 u35 u36 u37 u38 u39 u40 u41 u42 u43 u44 u45 u46 u47 u48 u49 u50 u51 u52 u53 u54 u55 u56 u57 u58 u59 u60 u61 u62 u63 u64 u65 u66 u67 u68 u69 u70:Value) (w:World)
  (HC:Hid (∀ w',SInv w' → w'.cell? ⟨ab,0,none⟩ = some (.string nm) ∧ w'.cell? ⟨ab,1,none⟩ = some (.string vl) ∧ w'.cell? ⟨eb,4,none⟩ = some (.slice (some ⟨b,o,none⟩) m c) ∧ w'.cell? ⟨b,o + j * 2,none⟩ = some (.string q) ∧ SInv w'))
  (HNK:Hid (∀ w',SInv w' → Calls Tryz.prog 88 #[.string nm] w' fun e w''=>e = .returned (.bool true) ∧ SInv w''))
  (HTK:Hid (∀ w',SInv w' → Calls Tryz.prog 78 #[.string vl] w' fun e w''=>e = .returned (.bool true) ∧ SInv w''))
  (hS:SInv w.drew) (Q:Exit → Act → World → Prop) (hQ:Hid (∀ w',SInv w' → Q .normal ⟨#[u0,u1,u2,.pointer (some ⟨eb,0,none⟩),u4,.int .i64 k,.pointer (some ⟨ab,0,none⟩),u7,u8,u9,u10,u11,u12,u13,u14,u15,u16,u17,u18,u19,u20,u21,u22,u23,u24,u25,u26,u27,u28,u29,u30,u31,u32,u33,u34,u35,u36,u37,u38,u39,u40,u41,u42,u43,.pointer (some ⟨ab,0,none⟩),.string nm,.bool true,.bool false,.bool false,.pointer (some ⟨ab,1,none⟩),.string vl,.bool true,.bool false,.bool false,.bool false,.int .i64 k,.bool true,.bool true,.pointer (some ⟨eb,4,none⟩),.slice (some ⟨b,o,none⟩) m c,.int .i64 k,.int .i64 j,.pointer (some ⟨b,o + j * 2,none⟩),.pointer (some ⟨b,o + j * 2,none⟩),.string q,.pointer (some ⟨ab,0,none⟩),.string nm,.bool T,.bool T,.bool T,u70],[]⟩ w')) :
  Code.wp Tryz.prog opens6 Q ⟨#[u0,u1,u2,.pointer (some ⟨eb,0,none⟩),u4,.int .i64 k,.pointer (some ⟨ab,0,none⟩),u7,u8,u9,u10,u11,u12,u13,u14,u15,u16,u17,u18,u19,u20,u21,u22,u23,u24,u25,u26,u27,u28,u29,u30,u31,u32,u33,u34,u35,u36,u37,u38,u39,u40,u41,u42,u43,u44,u45,u46,u47,u48,u49,u50,u51,u52,u53,u54,u55,u56,u57,u58,u59,u60,u61,u62,u63,u64,u65,u66,u67,u68,u69,u70],[]⟩ w:=by
 conv=>arg 2;whnf
 have HQ0:=hQ.out
 have HQ1:=Lib.hid HQ0
 clear HQ0
 have hk1:0 < k:=by omega
 have ew:IntKind.i64.wrap ((k:Int) - 1) = (j:Int):=by rw [IntWalk.i64_in _ (by omega)];omega
 have i1:(0:Int) ≤ (j:Int):=by omega
 have i2:(j:Int) < (m:Int):=by omega
 clear hQ hj
 go_region_held3 (fun w'=>w'.cell? ⟨ab,0,none⟩ = some (.string nm) ∧ w'.cell? ⟨ab,1,none⟩ = some (.string vl) ∧ w'.cell? ⟨eb,4,none⟩ = some (.slice (some ⟨b,o,none⟩) m c) ∧ w'.cell? ⟨b,o + j * 2,none⟩ = some (.string q) ∧ SInv w') (first | exact HC.out _ ‹_› | go_keep) (first | (go_at_call 88;(with_reducible refine (HNK.out _ (by assumption)).mono ?_);rintro e w5 ⟨rfl,hs5⟩) | (go_at_call 78;(with_reducible refine (HTK.out _ (by assumption)).mono ?_);rintro e w6 ⟨rfl,hs6⟩))
 subst hT
 exact HQ1.out _ (by assumption)
end Go.Proofs.YtgjokdngbocehaaGreatDoor
