/-
  gimletref03: Length, Stands, Find, Begins, Ends.
-/
import Derived.Test.YtgjokdngbocehaaGreatDoorHtA
import Derived.Test.YtgjokdngbocehaaGreatDoorHtD
import Derived.Test.YtgjokdngbocehaaGreatDoorHtE
import Derived.Test.YtgjokdngbocehaaGreatDoorHtF
import Derived.Test.YtgjokdngbocehaaGreatDoorHtH
import Derived.Test.YtgjokdngbocehaaGreatDoorHtN
import Derived.Test.YtgjokdngbocehaaGreatDoorHtR
import Derived.Test.YtgjokdngbocehaaGreatDoorHtZA
import Derived.Test.YtgjokdngbocehaaGreatDoorHtZB
namespace Go.Proofs.YtgjokdngbocehaaGreatDoor
open Go.RowKit
theorem Length3_any (s:ByteArray) (w:World) (hs:s.size ≤ 1048576) :
  Calls Tryz.prog 124 #[.string s] w fun e w'=>e = .returned (.int .i64 ((runesOf s).length:Int)) ∧ Below w.heap.size w w':=by
 have HS:=Lib.hid (fun W=>Runes3_any s W hs)
 generalize runesOf s = xs at *
 go_enter Tryz.func124,Tryz.ntmps124
 go_wp2_with fail
 (with_reducible refine (HS.out _).mono ?_)
 rintro e w1 ⟨⟨a0,n0,c0,rfl,h0⟩,b1⟩
 have hx:n0 = xs.length:=by have:=h0.len;simpa using this
 have HX:=Lib.hid hx
 have HB:=Lib.hid b1
 clear h0 hx b1
 go_wp2_with fail
 go_ret
 exact ⟨ret_int (by rw [HX.out]),HB.out⟩
set_option maxHeartbeats 1000000 in
theorem Stands3_any (a0 a1:Option Addr) (n0 c0 n1 c1 p:Nat) (xs ys:List Int) (w:World)
  (h0:Sl w a0 n0 (xs.map (Value.int .i32))) (h1:Sl w a1 n1 (ys.map (Value.int .i32))) (hm0:n0 ≤ 1048576) (hm1:n1 ≤ 1048576) (hp:p ≤ 1048576) :
  Calls Tryz.prog 147 #[.slice a0 n0 c0,.slice a1 n1 c1,.int .i64 (p:Nat)] w fun e w'=>e = .returned (.bool (standsL xs ys p)) ∧ ∃ n,w' = w.drewN n:=by
 have HX:Hid (n0 = xs.length):=Lib.hid (by have:=h0.len;simpa using this)
 have HY:Hid (n1 = ys.length):=Lib.hid (by have:=h1.len;simpa using this)
 have H0:=Lib.hid h0
 have H1:=Lib.hid h1
 clear h0 h1
 obtain ⟨R,hR⟩:∃ R,standsL xs ys p = R:=⟨_,rfl⟩
 rw [hR]
 have HR:=Lib.hid hR
 clear hR
 have ew:IntKind.i64.wrap ((p:Int) + (n1:Int)) = (p:Int) + (n1:Int):=IntWalk.i64_in _ (by omega)
 by_cases hsh:n0 < p + n1
 ·have HF:Hid (false = R):=Lib.hid (by rw [← HR.out];exact (standsL_short xs ys p (by rw [← HX.out,← HY.out];exact hsh)).symm)
  have q:(n0:Int) < (p:Int) + (n1:Int):=by omega
  go_enter Tryz.func147,Tryz.ntmps147
  go_wp2_with fail
  go_ret
  exact ⟨ret_bool HF.out,0,rfl⟩
 have q:(p:Int) + (n1:Int) ≤ (n0:Int):=by omega
 have HSH:=Lib.hid hsh
 go_enter Tryz.func147,Tryz.ntmps147
 go_wp2_with fail
 go_loopw [7] (fun i w'=>∃ k:Nat,k ≤ n1 ∧ i = .int .i64 k ∧ (∃ n,w' = w.drewN n) ∧ Hid (∀ j,j < k → xs[p + j]? = ys[j]?)) (fun i _=>n1 - (intOf i).toNat)
 case atStart=>exact ⟨0,Nat.zero_le _,rfl,⟨0,rfl⟩,Lib.hid fun j h=>absurd h (Nat.not_lt_zero _)⟩
 case round =>
  obtain ⟨k,hk0,rfl,⟨n,rfl⟩,hr⟩:=hrel
  by_cases hlt:k < n1
  ·have l0:p + k < xs.length:=by rw [← HX.out];omega
   have l1:k < ys.length:=by rw [← HY.out];exact hlt
   obtain ⟨b0,o0,rfl,_,e0⟩:=H0.out.cell (p + k) (by rw [List.length_map];exact l0)
   obtain ⟨b1,o1,rfl,_,e1⟩:=H1.out.cell k (by rw [List.length_map];exact l1)
   simp only [List.getElem_map] at e0 e1
   have HXK:Hid (xs[p + k]? = some xs[p + k]):=Lib.hid (List.getElem?_eq_getElem l0)
   have HYK:Hid (ys[k]? = some ys[k]):=Lib.hid (List.getElem?_eq_getElem l1)
   generalize xs[p + k] = x at *
   generalize ys[k] = y at *
   have i1:(k:Int) < (n1:Int):=by omega
   have i2:(0:Int) ≤ (p:Int) + (k:Int):=by omega
   have i3:(p:Int) + (k:Int) < (n0:Int):=by omega
   have i4:((p:Int) + (k:Int)).toNat = p + k:=by omega
   have ewk:IntKind.i64.wrap ((p:Int) + (k:Int)) = (p:Int) + (k:Int):=IntWalk.i64_in _ (by omega)
   have ew1:IntKind.i64.wrap ((k:Int) + 1) = (k:Int) + 1:=IntWalk.i64_in _ (by omega)
   by_cases hxy:x = y
   ·subst hxy
    have t1:((x:Int) != x) = false:=by simp
    clear l0 l1
    go_wp2_with (go_quiet (fail))
    go_roundw
    case rel=>exact ⟨k + 1,by omega,by go_num,⟨_,rfl⟩,Lib.hid fun j hj=>by
     rcases Nat.lt_or_ge j k with h | h
     ·exact hr.out j h
     ·rw [show j = k by omega,HXK.out,HYK.out]⟩
    case measure=>simp [intOf];omega
   ·have t1:((x:Int) != y) = true:=by simpa using hxy
    have hd:false = R:=by
     rw [← HR.out]
     refine (standsL_false xs ys p k l1 fun e=>?_).symm
     rw [HXK.out,HYK.out] at e
     exact hxy (Option.some.inj e)
    have HD:=Lib.hid hd
    clear l0 l1 hd hxy
    go_wp2_with (go_quiet (fail))
    go_ret
    exact ⟨ret_bool HD.out,_,by simp only [World.drewN_drewN];rfl⟩
  ·have hkn:k = n1:=by omega
   have HD:Hid (true = R):=Lib.hid (by
    rw [← HR.out]
    exact (standsL_true xs ys p (by rw [← HX.out,← HY.out];omega) fun i hi=>hr.out i (by rw [hkn,HY.out];exact hi)).symm)
   have i1:(n1:Int) ≤ (k:Int):=by omega
   go_wp2_with fail
   go_ret
   exact ⟨ret_bool HD.out,_,rfl⟩
set_option maxHeartbeats 1000000 in
theorem Begins3_any (s t:ByteArray) (w:World) (hs:s.size ≤ 1048576) (ht:t.size ≤ 1048576) :
  Calls Tryz.prog 125 #[.string s,.string t] w fun e w'=>e = .returned (.bool (standsL (runesOf s) (runesOf t) 0)) ∧ Below w.heap.size w w':=by
 have HS:=Lib.hid (fun W=>Runes3_any s W hs)
 have HT:=Lib.hid (fun W=>Runes3_any t W ht)
 have hls:=runesOf_length s
 have hlt:=runesOf_length t
 generalize runesOf s = xs at *
 generalize runesOf t = ys at *
 go_enter Tryz.func125,Tryz.ntmps125
 go_wp2_with fail
 (with_reducible refine (HS.out _).mono ?_)
 rintro e w1 ⟨⟨a0,n0,c0,rfl,h0⟩,b1⟩
 go_wp2_with fail
 (with_reducible refine (HT.out _).mono ?_)
 rintro e w2 ⟨⟨a1,n1,c1,rfl,h1⟩,b2⟩
 have hx:n0 = xs.length:=by have:=h0.len;simpa using this
 have hy:n1 = ys.length:=by have:=h1.len;simpa using this
 have HB:=Lib.hid (Below.tr b1 b2)
 have HST:Hid (Calls Tryz.prog 147 #[.slice a0 n0 c0,.slice a1 n1 c1,.int .i64 0] w2 fun e w'=>e = .returned (.bool (standsL xs ys 0)) ∧ ∃ n,w' = w2.drewN n) :=
  Lib.hid (Stands3_any a0 a1 n0 c0 n1 c1 0 xs ys w2 (h0.below b2) h1 (by omega) (by omega) (by omega))
 clear h0 h1 hx hy hls hlt b1 b2
 go_wp2_with fail
 (with_reducible refine HST.out.mono ?_)
 rintro e w3 ⟨rfl,m,rfl⟩
 go_wp2_with fail
 go_ret
 exact ⟨rfl,Below.drewN HB.out m⟩
set_option maxHeartbeats 1000000 in
theorem Ends3_any (s t:ByteArray) (w:World) (hs:s.size ≤ 1048576) (ht:t.size ≤ 1048576) :
  Calls Tryz.prog 126 #[.string s,.string t] w fun e w'=>e = .returned (.bool (decide ((runesOf t).length ≤ (runesOf s).length) && standsL (runesOf s) (runesOf t) ((runesOf s).length - (runesOf t).length))) ∧ Below w.heap.size w w':=by
 have HS:=Lib.hid (fun W=>Runes3_any s W hs)
 have HT:=Lib.hid (fun W=>Runes3_any t W ht)
 have hls:=runesOf_length s
 have hlt:=runesOf_length t
 generalize runesOf s = xs at *
 generalize runesOf t = ys at *
 obtain ⟨R,hR⟩:∃ R,(decide (ys.length ≤ xs.length) && standsL xs ys (xs.length - ys.length)) = R:=⟨_,rfl⟩
 rw [hR]
 have HR:=Lib.hid hR
 clear hR
 go_enter Tryz.func126,Tryz.ntmps126
 go_wp2_with fail
 (with_reducible refine (HS.out _).mono ?_)
 rintro e w1 ⟨⟨a0,n0,c0,rfl,h0⟩,b1⟩
 go_wp2_with fail
 (with_reducible refine (HT.out _).mono ?_)
 rintro e w2 ⟨⟨a1,n1,c1,rfl,h1⟩,b2⟩
 have hx:n0 = xs.length:=by have:=h0.len;simpa using this
 have hy:n1 = ys.length:=by have:=h1.len;simpa using this
 have HB:=Lib.hid (Below.tr b1 b2)
 by_cases hle:n1 ≤ n0
 ·have HST:Hid (Calls Tryz.prog 147 #[.slice a0 n0 c0,.slice a1 n1 c1,.int .i64 ((n0 - n1:Nat):Int)] w2 fun e w'=>e = .returned (.bool R) ∧ ∃ n,w' = w2.drewN n):=Lib.hid (by
   have:=Stands3_any a0 a1 n0 c0 n1 c1 (n0 - n1) xs ys w2 (h0.below b2) h1 (by omega) (by omega) (by omega)
   rw [← HR.out,decide_eq_true (show ys.length ≤ xs.length by omega),Bool.true_and,← hx,← hy]
   exact this)
  have i4:IntKind.i64.wrap ((n0:Int) - (n1:Int)) = ((n0 - n1:Nat):Int):=by rw [IntWalk.i64_in _ (by omega)];omega
  have i3:(n1:Int) ≤ (n0:Int):=by omega
  clear h0 h1 hx hy hls hlt b1 b2
  go_wp2_with fail
  (with_reducible refine HST.out.mono ?_)
  rintro e w3 ⟨rfl,m,rfl⟩
  go_wp2_with fail
  go_ret
  exact ⟨rfl,Below.drewN HB.out m⟩
 ·have HF:Hid (false = R):=Lib.hid (by rw [← HR.out,decide_eq_false (show ¬ ys.length ≤ xs.length by omega),Bool.false_and])
  have i3:(n0:Int) < (n1:Int):=by omega
  clear h0 h1 hx hy hls hlt b1 b2 hle
  go_wp2_with fail
  go_ret
  exact ⟨ret_bool HF.out,HB.out⟩
theorem kfind_here {st:Nat → Bool} {p m:Nat} (h:st p = true):kfind st p m = (p:Int):=by cases m <;> simp [kfind,h]
theorem kfind_next {st:Nat → Bool} {p m:Nat} (h:st p = false):kfind st p (m + 1) = kfind st (p + 1) m:=by simp [kfind,h]
theorem kfind_end {st:Nat → Bool} {p:Nat} (h:st p = false):kfind st p 0 = -1:=by simp [kfind,h]
set_option maxHeartbeats 1000000 in
theorem Find3_any (s t:ByteArray) (w:World) (hs:s.size ≤ 1048576) (ht:t.size ≤ 1048576) :
  Calls Tryz.prog 127 #[.string s,.string t] w fun e w'=>e = .returned (.int .i64 (findL (runesOf s) (runesOf t))) ∧ Below w.heap.size w w':=by
 have HS:=Lib.hid (fun W=>Runes3_any s W hs)
 have HT:=Lib.hid (fun W=>Runes3_any t W ht)
 have hls:=runesOf_length s
 have hlt:=runesOf_length t
 generalize runesOf s = xs at *
 generalize runesOf t = ys at *
 obtain ⟨R,hR⟩:∃ R,findL xs ys = R:=⟨_,rfl⟩
 rw [hR]
 have HR:=Lib.hid hR
 clear hR
 go_enter Tryz.func127,Tryz.ntmps127
 go_wp2_with fail
 (with_reducible refine (HS.out _).mono ?_)
 rintro e w1 ⟨⟨a0,n0,c0,rfl,h0⟩,b1⟩
 go_wp2_with fail
 (with_reducible refine (HT.out _).mono ?_)
 rintro e w2 ⟨⟨a1,n1,c1,rfl,h1⟩,b2⟩
 have hx:n0 = xs.length:=by have:=h0.len;simpa using this
 have hy:n1 = ys.length:=by have:=h1.len;simpa using this
 have HB:=Lib.hid (Below.tr b1 b2)
 have HST:Hid (∀ (m p:Nat),p ≤ n0 → Calls Tryz.prog 147 #[.slice a0 n0 c0,.slice a1 n1 c1,.int .i64 (p:Nat)] (w2.drewN m) fun e w'=>e = .returned (.bool (standsL xs ys p)) ∧ ∃ n,w' = w2.drewN n) :=
  Lib.hid fun m p hp=>(Stands3_any a0 a1 n0 c0 n1 c1 p xs ys (w2.drewN m) ((h0.below b2).keep fun _ _ _=>rfl) (h1.keep fun _ _ _=>rfl) (by omega) (by omega) (by omega)).mono fun e w' ⟨q1,n,q2⟩=>⟨q1,m + n,by rw [q2,World.drewN_drewN]⟩
 have HX:=Lib.hid hx
 have hn0:n0 ≤ 1048576:=by omega
 clear h0 h1 hx hy hls hlt b1 b2
 go_wp2_with fail
 go_loopw [7] (fun i w'=>∃ k:Nat,k ≤ n0 + 1 ∧ i = .int .i64 k ∧ (∃ n,w' = w2.drewN n) ∧ Hid ((k ≤ n0 → kfind (standsL xs ys) k (n0 - k) = R) ∧ (k = n0 + 1 → -1 = R))) (fun i _=>n0 + 1 - (intOf i).toNat)
 case atStart=>exact ⟨0,Nat.zero_le _,rfl,⟨0,rfl⟩,Lib.hid ⟨fun _=>by rw [Nat.sub_zero,HX.out];exact HR.out,fun h=>by omega⟩⟩
 case round =>
  obtain ⟨k,hk0,rfl,⟨m,rfl⟩,HQ⟩:=hrel
  by_cases hlt:k ≤ n0
  ·have HSK:=Lib.hid (HST.out m k hlt)
   have i1:(k:Int) ≤ (n0:Int):=by omega
   have ew1:IntKind.i64.wrap ((k:Int) + 1) = (k:Int) + 1:=IntWalk.i64_in _ (by omega)
   cases hst:standsL xs ys k with
   | true =>
    rw [hst] at HSK
    have HF:Hid ((k:Int) = R):=Lib.hid (by rw [← HQ.out.1 hlt];exact (kfind_here hst).symm)
    clear hst
    go_wp2_with fail
    (with_reducible refine HSK.out.mono ?_)
    rintro e w3 ⟨rfl,m3,rfl⟩
    go_wp2_with fail
    go_ret
    exact ⟨ret_int HF.out,Below.drewN HB.out m3⟩
   | false =>
    rw [hst] at HSK
    have HF:Hid ((k + 1 ≤ n0 → kfind (standsL xs ys) (k + 1) (n0 - (k + 1)) = R) ∧ (k + 1 = n0 + 1 → -1 = R)):=Lib.hid (by
     have h1:=HQ.out.1 hlt
     refine ⟨fun h=>?_,fun h=>?_⟩
     ·rw [show n0 - k = n0 - (k + 1) + 1 by omega,kfind_next hst] at h1;exact h1
     ·rw [show n0 - k = 0 by omega,kfind_end hst] at h1;exact h1)
    clear hst
    go_wp2_with fail
    (with_reducible refine HSK.out.mono ?_)
    rintro e w3 ⟨rfl,m3,rfl⟩
    go_wp2_with fail
    go_roundw
    case rel=>exact ⟨k + 1,by omega,by go_num,⟨_,rfl⟩,HF⟩
    case measure=>simp [intOf];omega
  ·have HF:Hid (-1 = R):=Lib.hid (HQ.out.2 (by omega))
   have i1:(n0:Int) < (k:Int):=by omega
   go_wp2_with fail
   go_ret
   exact ⟨ret_int HF.out,Below.drewN HB.out m⟩
end Go.Proofs.YtgjokdngbocehaaGreatDoor
namespace Go.Proofs.YtgjokdngbocehaaGreatDoor
open Go.RowKit
def cmpQ (s:List UInt8) (c:Int) (t:List UInt8) (n:Int):Value:=.tuple #[.bool ((cmpB s c t n).getD false),.bool (cmpB s c t n).isSome]
theorem cmpQ_some {s:List UInt8} {c:Int} {t:List UInt8} {n:Int} {b:Bool} (h:cmpB s c t n = some b):cmpQ s c t n = .tuple #[.bool b,.bool true]:=by unfold cmpQ;rw [h];rfl
theorem cmpQ_none {s:List UInt8} {c:Int} {t:List UInt8} {n:Int} (h:cmpB s c t n = none):cmpQ s c t n = .tuple #[.bool false,.bool false]:=by unfold cmpQ;rw [h];rfl
set_option maxRecDepth 100000 in
set_option maxHeartbeats 4000000 in
theorem Compared12_any (s t:List UInt8) (c n:Int) (w:World) (hs:s.length ≤ 1048576) (ht:t.length ≤ 1048576) :
  Calls Tryz.prog 97 #[.string (strL s),.int .i64 c,.string (strL t),.int .i64 n] w fun e w'=>e = .returned (cmpQ s c t n) ∧ Below w.heap.size w w':=by
 have hs':(strL s).size ≤ 1048576:=by rw [strL_size];exact hs
 have ht':(strL t).size ≤ 1048576:=by rw [strL_size];exact ht
 have HC:=Lib.hid fun W=>Cmp3_any (strL s) (strL t) W hs' ht'
 have HBG:=Lib.hid fun W=>Begins3_any (strL s) (strL t) W hs' ht'
 have HEN:=Lib.hid fun W=>Ends3_any (strL s) (strL t) W hs' ht'
 have HFI:=Lib.hid fun W=>Find3_any (strL s) (strL t) W hs' ht'
 have HLE:=Lib.hid fun W=>Length3_any (strL s) W hs'
 clear hs ht hs' ht'
 by_cases hc:c < 0 ∨ 8 < c
 ·rw [cmpQ_none (cmpB_none hc)]
  have t0:(c == 0) = false:=by simp;omega
  have t1:(c == 1) = false:=by simp;omega
  have t2:(c == 2) = false:=by simp;omega
  have t3:(c == 3) = false:=by simp;omega
  have t4:(c == 4) = false:=by simp;omega
  have t5:(c == 5) = false:=by simp;omega
  have t6:(c == 6) = false:=by simp;omega
  have t7:(c == 7) = false:=by simp;omega
  have t8:(c == 8) = false:=by simp;omega
  clear hc
  go_enter Tryz.func97,Tryz.ntmps97
  go_wp2_with fail
  (with_reducible refine (HLE.out _).mono ?_)
  rintro e w0 ⟨rfl,hb0⟩
  go_wp2_with fail
  go_ret2
  exact ⟨rfl,hb0⟩
 have hc2:c = 0 ∨ c = 1 ∨ c = 2 ∨ c = 3 ∨ c = 4 ∨ c = 5 ∨ c = 6 ∨ c = 7 ∨ c = 8:=by omega
 clear hc
 rcases hc2 with rfl | rfl | rfl | rfl | rfl | rfl | rfl | rfl | rfl
 ·rw [cmpQ_some (b:=true) rfl]
  go_enter Tryz.func97,Tryz.ntmps97
  go_wp2_with fail
  (with_reducible refine (HLE.out _).mono ?_)
  rintro e w0 ⟨rfl,hb0⟩
  go_wp2_with fail
  go_ret2
  exact ⟨rfl,hb0⟩
 ·rw [cmpQ_some (b:=decide (cmpL (runesOf (strL s)) (runesOf (strL t)) = 0)) rfl]
  generalize cmpL (runesOf (strL s)) (runesOf (strL t)) = v at *
  obtain ⟨R,hR⟩:∃ R,decide (v = 0) = R:=⟨_,rfl⟩
  rw [hR]
  have t1:((v:Int) == 0) = R:=by rw [← hR];rfl
  clear hR
  go_enter Tryz.func97,Tryz.ntmps97
  go_wp2_with fail
  (with_reducible refine (HLE.out _).mono ?_)
  rintro e w0 ⟨rfl,hb0⟩
  go_wp2_with fail
  (with_reducible refine (HC.out _).mono ?_)
  rintro e w1 ⟨rfl,hb⟩
  go_wp2_with fail
  go_ret2
  exact ⟨rfl,Below.tr hb0 hb⟩
 ·rw [cmpQ_some (b:=decide (cmpL (runesOf (strL s)) (runesOf (strL t)) ≠ 0)) rfl]
  generalize cmpL (runesOf (strL s)) (runesOf (strL t)) = v at *
  obtain ⟨R,hR⟩:∃ R,decide (v ≠ 0) = R:=⟨_,rfl⟩
  rw [hR]
  have t1:((v:Int) != 0) = R:=by rw [← hR];by_cases h:v = 0 <;> simp [h]
  clear hR
  go_enter Tryz.func97,Tryz.ntmps97
  go_wp2_with fail
  (with_reducible refine (HLE.out _).mono ?_)
  rintro e w0 ⟨rfl,hb0⟩
  go_wp2_with fail
  (with_reducible refine (HC.out _).mono ?_)
  rintro e w1 ⟨rfl,hb⟩
  go_wp2_with fail
  go_ret2
  exact ⟨rfl,Below.tr hb0 hb⟩
 ·rw [cmpQ_some (b:=standsL (runesOf (strL s)) (runesOf (strL t)) 0) rfl]
  generalize standsL (runesOf (strL s)) (runesOf (strL t)) 0 = v at *
  go_enter Tryz.func97,Tryz.ntmps97
  go_wp2_with fail
  (with_reducible refine (HLE.out _).mono ?_)
  rintro e w0 ⟨rfl,hb0⟩
  go_wp2_with fail
  (with_reducible refine (HBG.out _).mono ?_)
  rintro e w1 ⟨rfl,hb⟩
  go_wp2_with fail
  go_ret2
  exact ⟨rfl,Below.tr hb0 hb⟩
 ·rw [cmpQ_some (b:=decide ((runesOf (strL t)).length ≤ (runesOf (strL s)).length) && standsL (runesOf (strL s)) (runesOf (strL t)) ((runesOf (strL s)).length - (runesOf (strL t)).length)) rfl]
  generalize (decide ((runesOf (strL t)).length ≤ (runesOf (strL s)).length) && standsL (runesOf (strL s)) (runesOf (strL t)) ((runesOf (strL s)).length - (runesOf (strL t)).length)) = v at *
  go_enter Tryz.func97,Tryz.ntmps97
  go_wp2_with fail
  (with_reducible refine (HLE.out _).mono ?_)
  rintro e w0 ⟨rfl,hb0⟩
  go_wp2_with fail
  (with_reducible refine (HEN.out _).mono ?_)
  rintro e w1 ⟨rfl,hb⟩
  go_wp2_with fail
  go_ret2
  exact ⟨rfl,Below.tr hb0 hb⟩
 ·rw [cmpQ_some (b:=decide (0 ≤ findL (runesOf (strL s)) (runesOf (strL t)))) rfl]
  generalize findL (runesOf (strL s)) (runesOf (strL t)) = v at *
  go_enter Tryz.func97,Tryz.ntmps97
  go_wp2_with fail
  (with_reducible refine (HLE.out _).mono ?_)
  rintro e w0 ⟨rfl,hb0⟩
  go_wp2_with fail
  (with_reducible refine (HFI.out _).mono ?_)
  rintro e w1 ⟨rfl,hb⟩
  go_wp2_with fail
  go_ret2
  exact ⟨rfl,Below.tr hb0 hb⟩
 ·rw [cmpQ_some (b:=decide (((runesOf (strL s)).length:Int) = n)) rfl]
  generalize ((runesOf (strL s)).length:Int) = v at *
  obtain ⟨R,hR⟩:∃ R,decide (v = n) = R:=⟨_,rfl⟩
  rw [hR]
  have t1:((v:Int) == n) = R:=by rw [← hR];rfl
  clear hR
  go_enter Tryz.func97,Tryz.ntmps97
  go_wp2_with fail
  (with_reducible refine (HLE.out _).mono ?_)
  rintro e w0 ⟨rfl,hb0⟩
  go_wp2_with fail
  go_ret2
  exact ⟨rfl,hb0⟩
 ·rw [cmpQ_some (b:=decide (n < ((runesOf (strL s)).length:Int))) rfl]
  generalize ((runesOf (strL s)).length:Int) = v at *
  go_enter Tryz.func97,Tryz.ntmps97
  go_wp2_with fail
  (with_reducible refine (HLE.out _).mono ?_)
  rintro e w0 ⟨rfl,hb0⟩
  go_wp2_with fail
  go_ret2
  exact ⟨rfl,hb0⟩
 ·rw [cmpQ_some (b:=decide (((runesOf (strL s)).length:Int) < n)) rfl]
  generalize ((runesOf (strL s)).length:Int) = v at *
  go_enter Tryz.func97,Tryz.ntmps97
  go_wp2_with fail
  (with_reducible refine (HLE.out _).mono ?_)
  rintro e w0 ⟨rfl,hb0⟩
  go_wp2_with fail
  go_ret2
  exact ⟨rfl,hb0⟩
end Go.Proofs.YtgjokdngbocehaaGreatDoor
namespace Go.Proofs.YtgjokdngbocehaaGreatDoor
open Go.RowKit
theorem alloc_atR (w:World) (o:Obj) {k:Nat} (h:k = w.heap.size):(w.alloc o).heap[k]? = some o:=by subst h;exact heap_alloc_new w o
structure RD (w:World) (an:Option Addr) (clo:Bool) (evs:List Ev) (hs:List HN) (rs:List RN):Prop where
 mem:RbMem w an evs rs
 len:hs.length = rs.length + 1
 rel:∀ (i:Nat) (r:RN),rs[i]? = some r → ∃ h,hs[i + 1]? = some h ∧ RbAt evs.length evs h r
 root:∃ h,hs[0]? = some h ∧ h.txt = (rs.head?.map fun r=>r.val).getD [] ∧ h.op = (!clo) ∧ h.kd = 0 ∧ h.par = -1 ∧ h.ev.ats = []
 sm:∀ e ∈ evs,EvSm e
 tx:∀ h ∈ hs,h.txt.length ≤ 1048576
 cap:rs.length ≤ 400
theorem RD.below {w w':World} {an:Option Addr} {clo:Bool} {evs:List Ev} {hs:List HN} {rs:List RN} (h:RD w an clo evs hs rs) (hb:Below w.heap.size w w'):RD w' an clo evs hs rs:=⟨h.mem.below hb,h.len,h.rel,h.root,h.sm,h.tx,h.cap⟩
theorem RD.node {w:World} {an:Option Addr} {clo:Bool} {evs:List Ev} {hs:List HN} {rs:List RN} (h:RD w an clo evs hs rs) (i:Nat) (y:HN) (hy:hs[i + 1]? = some y):∃ (r:RN) (b:Nat) (A:Option Addr) (m c:Nat),rs[i]? = some r ∧ RbAt evs.length evs y r ∧ i < rs.length ∧ an = some ⟨b,0,none⟩ ∧ EvSm y.ev ∧
  ∀ W,Below w.heap.size w W → AttrsAt W A m y.ev.ats ∧ W.cell? ⟨b,i * 13,none⟩ = some (.int .i64 y.ev.kind) ∧ W.cell? ⟨b,i * 13 + 3,none⟩ = some (.string (strL y.ev.name)) ∧ W.cell? ⟨b,i * 13 + 4,none⟩ = some (.slice A m c) ∧
   W.cell? ⟨b,i * 13 + 8,none⟩ = some (.int .i64 r.par) ∧ W.cell? ⟨b,i * 13 + 9,none⟩ = some (.int .i64 r.last) ∧ W.cell? ⟨b,i * 13 + 10,none⟩ = some (.int .i64 (r.pos:Nat)) ∧ W.cell? ⟨b,i * 13 + 11,none⟩ = some (.int .i64 r.clo) ∧ W.cell? ⟨b,i * 13 + 12,none⟩ = some (.string (strL y.txt)):=by
 have hil:i < rs.length:=by have:=(List.getElem?_eq_some_iff.1 hy).1;have:=h.len;omega
 have hr:rs[i]? = some rs[i]:=List.getElem?_eq_getElem hil
 obtain ⟨y',hy',hrb⟩:=h.rel i _ hr
 rw [hy] at hy'
 cases hy'
 obtain ⟨b,e,A,m,c,h1,h2,h3,h4,h5⟩:=h.mem i _ hr
 have he:e = y.ev:=by have:=hrb.1;rw [h3] at this;exact Option.some.inj this
 subst he
 have k:=fun (W:World) (hW:Below w.heap.size w W) j (hj:j < 13)=>(hW.cell (p:=⟨b,i * 13 + j,none⟩) h2).trans (h5 j hj)
 refine ⟨rs[i],b,A,m,c,hr,hrb,hil,h1,h.sm _ (List.mem_of_getElem? h3),fun W hW=>⟨h4.below hW,k W hW 0 (by decide),k W hW 3 (by decide),k W hW 4 (by decide),k W hW 8 (by decide),k W hW 9 (by decide),k W hW 10 (by decide),k W hW 11 (by decide),?_⟩⟩
 rw [hrb.2.2.2.2.1]
 exact k W hW 12 (by decide)
set_option maxRecDepth 100000 in
set_option maxHeartbeats 4000000 in
theorem meets15_any {an:Option Addr} {cn:Nat} {clo:Bool} {evs:List Ev} {hs:List HN} {rs:List RN} (n:Int) (y:HN) (s:PS) (wa:Option Addr) (wc:Nat) (w:World) (h:RD w an clo evs hs rs) (hn:-1 ≤ n) (hy:hs[(n + 1).toNat]? = some y) (ht:0 ≤ s.test ∧ s.test ≤ 3) :
  Calls Tryz.prog 93 #[.slice an rs.length cn,.int .i64 n,.agg (stepC s wa wc).toArray] w fun e w'=>e = .returned (.bool (decide (testT y s = 2))) ∧ Below w.heap.size w w':=by
 obtain ⟨R,hR⟩:∃ R,decide (testT y s = 2) = R:=⟨_,rfl⟩
 rw [hR]
 have HRT:Hid ((if s.test = 0 then truthI (decide (y.kd = 1) && decide (y.ev.name = s.name)) else if s.test = 1 then truthI (decide (y.kd = 1)) else if s.test = 2 then truthI (decide (y.kd = 2)) else 2) = testT y s):=Lib.hid rfl
 have HR:Hid ((if s.test = 3 then true else if n < 0 then false
  else if s.test = 0 then decide (y.ev.kind = 0) && decide (y.ev.name = s.name)
  else if s.test = 1 then decide (y.ev.kind = 0) else decide (y.ev.kind = 1)) = R):=Lib.hid (by
  rw [← hR,← HRT.out]
  have tr:∀ b:Bool,decide (truthI b = 2) = b:=fun b=>by cases b <;> rfl
  by_cases h3:s.test = 3
  ·rw [if_pos h3,if_neg (by omega),if_neg (by omega),if_neg (by omega)];rfl
  rw [if_neg h3]
  by_cases hneg:n < 0
  ·rw [if_pos hneg]
   have:(n + 1).toNat = 0:=by omega
   rw [this] at hy
   obtain ⟨y0,h0,_,_,hk,_⟩:=h.root
   rw [hy] at h0
   cases h0
   rw [hk]
   by_cases h0:s.test = 0
   ·rw [if_pos h0];rfl
   ·rw [if_neg h0]
    by_cases h1:s.test = 1
    ·rw [if_pos h1];rfl
    ·rw [if_neg h1,if_pos (by omega)];rfl
  ·rw [if_neg hneg]
   obtain ⟨i,rfl⟩:∃ i:Nat,n = (i:Int):=⟨n.toNat,by omega⟩
   have:((i:Int) + 1).toNat = i + 1:=by omega
   rw [this] at hy
   obtain ⟨r,b,A,m,c,_,hrb,_⟩:=h.node i y hy
   have hk:=hrb.2.2.1
   have hkk:=hrb.2.2.2.1
   by_cases h0:s.test = 0
   ·rw [if_pos h0,if_pos h0,tr,hk]
    rcases hkk with h9 | h9 <;> simp [h9]
   ·rw [if_neg h0,if_neg h0]
    by_cases h1:s.test = 1
    ·rw [if_pos h1,if_pos h1,tr,hk]
     rcases hkk with h9 | h9 <;> simp [h9]
    ·rw [if_neg h1,if_neg h1,if_pos (by omega),tr,hk]
     rcases hkk with h9 | h9 <;> simp [h9])
 clear hR HRT
 have hb0:∀ o,Below w.heap.size w (w.alloc o):=fun o=>(Below.refl _ _).alloc (Nat.le_refl _) _
 have HB0:=Lib.hid hb0
 have HBD:Hid (∀ o d,Below w.heap.size w ((w.alloc o).drewN d)):=Lib.hid fun o d=>Below.drewN (hb0 o) d
 unfold stepC at *
 generalize s.axis = ax at *
 generalize s.wher.length = wl at *
 by_cases h3:s.test = 3
 ·rw [if_pos h3] at HR
  generalize strL s.name = nm at *
  generalize s.test = te at *
  subst h3
  clear h hn hb0 hy ht
  generalize rs.length = L at *
  go_enter Tryz.func93,Tryz.ntmps93
  go_wp2_with fail
  go_ret
  exact ⟨ret_bool HR.out,HB0.out _⟩
 rw [if_neg h3] at HR
 have t3:((s.test:Int) == 3) = false:=by simpa using h3
 by_cases hneg:n < 0
 ·rw [if_pos hneg] at HR
  generalize strL s.name = nm at *
  generalize s.test = te at *
  clear h3 h hn hb0 hy ht
  generalize rs.length = L at *
  go_enter Tryz.func93,Tryz.ntmps93
  go_wp2_with fail
  go_ret
  exact ⟨ret_bool HR.out,HB0.out _⟩
 rw [if_neg hneg] at HR
 obtain ⟨i,rfl⟩:∃ i:Nat,n = (i:Int):=⟨n.toNat,by omega⟩
 have hi1:((i:Int) + 1).toNat = i + 1:=by omega
 rw [hi1] at hy
 obtain ⟨r,b,A,m,c,_,hrb,hil,rfl,_,hcs⟩:=h.node i y hy
 have hkd:=hrb.2.2.2.1
 have hcmp:=strL_cmpH y.ev.name s.name
 have c0:=fun o=>(hcs (w.alloc o) (hb0 o)).2.1
 have c3:=fun o=>(hcs (w.alloc o) (hb0 o)).2.2.1
 have c0d:=fun o d=>(hcs ((w.alloc o).drewN d) (HBD.out o d)).2.1
 have c3d:=fun o d=>(hcs ((w.alloc o).drewN d) (HBD.out o d)).2.2.1
 have i1:(0:Int) ≤ (i:Int):=by omega
 have i2:(i:Int) < (rs.length:Int):=by omega
 clear h hn hb0 hil hneg hcs hy hi1 hrb ht
 generalize rs.length = L at *
 generalize y.ev = ev at *
 obtain ⟨kd,num,dep,name,ats,text,fr,tt⟩:=ev
 simp only at *
 generalize decide (name = s.name) = NE at *
 generalize strL name = nv at *
 generalize strL s.name = nm at *
 generalize s.test = te at *
 by_cases h0:te = 0
 ·subst h0
  rw [if_pos rfl] at HR
  rcases hkd with rfl | rfl
  ·go_enter Tryz.func93,Tryz.ntmps93
   go_wp2_with fail
   go_quiet (fail)
   go_wp2_with fail
   go_ret
   exact ⟨ret_bool (by rw [← HR.out];simp),HBD.out _ _⟩
  ·go_enter Tryz.func93,Tryz.ntmps93
   go_wp2_with fail
   go_quiet (fail)
   go_wp2_with fail
   go_ret
   exact ⟨ret_bool (by rw [← HR.out];simp),HBD.out _ _⟩
 ·rw [if_neg h0] at HR
  have t0:((te:Int) == 0) = false:=by simpa using h0
  by_cases h1:te = 1
  ·subst h1
   rw [if_pos rfl] at HR
   rcases hkd with rfl | rfl
   ·go_enter Tryz.func93,Tryz.ntmps93
    go_wp2_with fail
    go_ret
    exact ⟨ret_bool (by rw [← HR.out];simp),HB0.out _⟩
   ·go_enter Tryz.func93,Tryz.ntmps93
    go_wp2_with fail
    go_ret
    exact ⟨ret_bool (by rw [← HR.out];simp),HB0.out _⟩
  ·rw [if_neg h1] at HR
   have t1:((te:Int) == 1) = false:=by simpa using h1
   rcases hkd with rfl | rfl
   ·go_enter Tryz.func93,Tryz.ntmps93
    go_wp2_with fail
    go_ret
    exact ⟨ret_bool (by rw [← HR.out];simp),HB0.out _⟩
   ·go_enter Tryz.func93,Tryz.ntmps93
    go_wp2_with fail
    go_ret
    exact ⟨ret_bool (by rw [← HR.out];simp),HB0.out _⟩
def attrH (y:HN) (nm:List UInt8):Option (List UInt8):=(y.ev.ats.find? fun p=>p.1 == nm).map (·.2)
set_option maxRecDepth 100000 in
set_option maxHeartbeats 4000000 in
theorem attr15_any {an:Option Addr} {cn:Nat} {clo:Bool} {evs:List Ev} {hs:List HN} {rs:List RN} (n:Int) (y:HN) (nm:List UInt8) (w:World) (h:RD w an clo evs hs rs) (hn:-1 ≤ n) (hy:hs[(n + 1).toNat]? = some y) :
  Calls Tryz.prog 96 #[.slice an rs.length cn,.int .i64 n,.string (strL nm)] w fun e w'=>e = .returned (.tuple #[.string (strL ((attrH y nm).getD [])),.bool (attrH y nm).isSome]) ∧ Below w.heap.size w w':=by
 by_cases hneg:n < 0
 ·have hat:y.ev.ats = []:=by
   have h0:(n + 1).toNat = 0:=by omega
   rw [h0] at hy
   obtain ⟨y0,h1,_,_,_,_,hk⟩:=h.root
   rw [hy] at h1
   cases h1
   exact hk
  rw [show attrH y nm = none by unfold attrH;rw [hat];rfl]
  clear h hn hy hat
  generalize rs.length = L at *
  generalize strL nm = nv at *
  go_enter Tryz.func96,Tryz.ntmps96
  go_wp2_with fail
  go_ret2
  exact ⟨rfl,Below.refl _ _⟩
 obtain ⟨i,rfl⟩:∃ i:Nat,n = (i:Int):=⟨n.toNat,by omega⟩
 have hi1:((i:Int) + 1).toNat = i + 1:=by omega
 rw [hi1] at hy
 obtain ⟨r,b,A,m,c,_,_,hil,rfl,hsm,hcs⟩:=h.node i y hy
 have hRA:attrH y nm = (y.ev.ats.find? fun p=>p.1 == nm).map (·.2):=rfl
 rw [hRA]
 have hml:m ≤ 1048576:=by rw [(hcs w (Below.refl _ _)).1.1];exact hsm.2.2.1
 generalize y.ev.ats = ats at *
 have HM:Hid (m = ats.length):=Lib.hid (hcs w (Below.refl _ _)).1.1
 obtain ⟨R,hR⟩:∃ R,(ats.find? fun p=>p.1 == nm).map (·.2) = R:=⟨_,rfl⟩
 rw [hR]
 have HR:=Lib.hid hR
 have HCS:Hid (∀ W,Below w.heap.size w W → W.cell? ⟨b,i * 13 + 4,none⟩ = some (.slice A m c)):=Lib.hid fun W hW=>(hcs W hW).2.2.2.1
 have HAT:Hid (∀ j (hj:j < ats.length),∃ b o,A = some ⟨b,o,none⟩ ∧ ∀ W,Below w.heap.size w W → W.cell? ⟨b,o + j * 2,none⟩ = some (.string (strL ats[j].1)) ∧ W.cell? ⟨b,o + j * 2 + 1,none⟩ = some (.string (strL ats[j].2))):=Lib.hid fun j hj=>by
  obtain ⟨b,o,e,hlt,h1,h2⟩:=(hcs w (Below.refl _ _)).1.2 j hj
  exact ⟨b,o,e,fun W hW=>⟨(hW.cell (p:=⟨b,o + j * 2,none⟩) hlt).trans h1,(hW.cell (p:=⟨b,o + j * 2 + 1,none⟩) hlt).trans h2⟩⟩
 have i1:(0:Int) ≤ (i:Int):=by omega
 have i2:(i:Int) < (rs.length:Int):=by omega
 clear h hn hil hneg hcs hRA hR hsm hy hi1
 generalize rs.length = L at *
 go_enter Tryz.func96,Tryz.ntmps96
 go_wp2_with fail
 go_loopw [8] (fun jv wr=>∃ j:Nat,jv = .int .i64 j ∧ j ≤ m ∧ Hid ((ats.take j).find? (fun p=>p.1 == nm) = none ∧ Below w.heap.size w wr)) (fun jv _=>m - (intOf jv).toNat)
 case atStart=>exact ⟨0,rfl,Nat.zero_le _,Lib.hid ⟨rfl,Below.refl _ _⟩⟩
 case round =>
  obtain ⟨j,rfl,hjm,HJ⟩:=hrel
  have c4:=HCS.out wr HJ.out.2
  have j1:(0:Int) ≤ (j:Int):=by omega
  have ewj:IntKind.i64.wrap ((j:Int) + 1) = (j:Int) + 1:=IntWalk.i64_in _ (by omega)
  by_cases hj:j < m
  ·have j2:(j:Int) < (m:Int):=by omega
   have hjl:j < ats.length:=by rw [← HM.out];exact hj
   obtain ⟨b2,o2,rfl,hc⟩:=HAT.out j hjl
   obtain ⟨d0,d1⟩:=hc wr HJ.out.2
   have hcmp:=strL_cmpH ats[j].1 nm
   by_cases he:ats[j].1 = nm
   ·rw [decide_eq_true he] at hcmp
    have HF:Hid (R = some ats[j].2):=Lib.hid (by
     rw [← HR.out]
     have h1:ats = ats.take j ++ ats[j] :: ats.drop (j + 1):=by rw [← List.drop_eq_getElem_cons hjl,List.take_append_drop]
     have h3:(ats[j].1 == nm) = true:=by simp [he]
     have h2:(ats.take j ++ ats[j] :: ats.drop (j + 1)).find? (fun p=>p.1 == nm) = some ats[j]:=by
      rw [List.find?_append,HJ.out.1,List.find?_cons,h3];rfl
     rw [← h1] at h2
     rw [h2];rfl)
    clear hc he
    generalize strL ats[j].1 = q1 at *
    generalize hq2:strL ats[j].2 = q2 at *
    have HQ2:=Lib.hid hq2
    clear hq2
    generalize strL nm = nv at *
    go_wp2_with fail
    go_ret2
    exact ⟨by rw [HF.out];show _ = Ending.returned (.tuple #[.string (strL ats[j].2),.bool true]);rw [HQ2.out];rfl,HJ.out.2⟩
   ·rw [decide_eq_false he] at hcmp
    have HNX:Hid ((ats.take (j + 1)).find? (fun p=>p.1 == nm) = none):=Lib.hid (by
     have h3:(ats[j].1 == nm) = false:=by simp [he]
     rw [List.take_succ_eq_append_getElem hjl,List.find?_append,HJ.out.1,List.find?_cons,h3];rfl)
    clear hc he
    generalize strL ats[j].1 = q1 at *
    generalize strL ats[j].2 = q2 at *
    generalize strL nm = nv at *
    go_wp2_with fail
    go_roundw
    case rel=>exact ⟨j + 1,by go_num,by omega,Lib.hid ⟨HNX.out,HJ.out.2⟩⟩
    case measure=>simp [intOf];omega
  ·have j4:(m:Int) ≤ (j:Int):=by omega
   have HF:Hid (R = none):=Lib.hid (by
    rw [← HR.out]
    have h1:=HJ.out.1
    rw [List.take_of_length_le (by rw [← HM.out];omega)] at h1
    rw [h1];rfl)
   generalize strL nm = nv at *
   go_wp2_with fail
   go_ret2
   exact ⟨by rw [HF.out];rfl,HJ.out.2⟩
set_option maxRecDepth 100000 in
set_option maxHeartbeats 4000000 in
theorem value15_any {an:Option Addr} {cn:Nat} {clo:Bool} {evs:List Ev} {hs:List HN} {rs:List RN} (n:Int) (y:HN) (w:World) (h:RD w an clo evs hs rs) (hn:-1 ≤ n) (hy:hs[(n + 1).toNat]? = some y) :
  Calls Tryz.prog 98 #[.slice an rs.length cn,.int .i64 n] w fun e w'=>e = .returned (.string (strL y.txt)) ∧ w' = w:=by
 by_cases hneg:n < 0
 ·have h0:(n + 1).toNat = 0:=by omega
  rw [h0] at hy
  obtain ⟨y0,h1,h2,_⟩:=h.root
  rw [hy] at h1
  cases h1
  cases hr:rs with
  | nil =>
   rw [hr] at h2
   rw [h2]
   clear h hy
   go_enter Tryz.func98,Tryz.ntmps98
   go_wp2_with fail
   go_ret
   exact ⟨rfl,rfl⟩
  | cons r0 rs' =>
   have hr0:rs[0]? = some r0:=by rw [hr];rfl
   obtain ⟨y1,hy1,_⟩:=h.rel 0 r0 hr0
   obtain ⟨r,b,A,m,c,hr1,hrb,hil,rfl,_,hcs⟩:=h.node 0 y1 hy1
   rw [hr0] at hr1
   cases hr1
   have c12:=(hcs w (Below.refl _ _)).2.2.2.2.2.2.2.2
   rw [hrb.2.2.2.2.1] at c12
   have h3:y.txt = r0.val:=by rw [h2,hr];rfl
   rw [h3]
   rw [Nat.zero_mul,Nat.zero_add] at c12
   have hl:(0:Int) < ((r0 :: rs').length:Int):=by simp
   have hl0:(((r0 :: rs').length:Int) == 0) = false:=beq_eq_false_iff_ne.2 (by omega)
   generalize (r0 :: rs').length = L at *
   generalize strL r0.val = T at *
   clear h hy hcs hrb h2 h3 hy1 hr hr0 hil
   go_enter Tryz.func98,Tryz.ntmps98
   go_wp2_with fail
   go_ret
   exact ⟨rfl,rfl⟩
 ·obtain ⟨i,rfl⟩:∃ i:Nat,n = (i:Int):=⟨n.toNat,by omega⟩
  have hi1:((i:Int) + 1).toNat = i + 1:=by omega
  rw [hi1] at hy
  obtain ⟨r,b,A,m,c,_,_,hil,rfl,_,hcs⟩:=h.node i y hy
  have c12:=(hcs w (Below.refl _ _)).2.2.2.2.2.2.2.2
  have i1:(0:Int) ≤ (i:Int):=by omega
  have i2:(i:Int) < (rs.length:Int):=by omega
  generalize rs.length = L at *
  generalize strL y.txt = T at *
  clear h hy hcs hil hneg
  go_enter Tryz.func98,Tryz.ntmps98
  go_wp2_with fail
  go_ret
  exact ⟨rfl,rfl⟩
set_option maxRecDepth 100000 in
set_option maxHeartbeats 4000000 in
theorem open15_any {an:Option Addr} {cn:Nat} {clo:Bool} {evs:List Ev} {hs:List HN} {rs:List RN} (n:Int) (y:HN) (w:World) (h:RD w an clo evs hs rs) (hn:-1 ≤ n) (hy:hs[(n + 1).toNat]? = some y) :
  Calls Tryz.prog 38 #[.agg #[.slice an rs.length cn,.bool clo],.int .i64 n] w fun e w'=>e = .returned (.bool y.op) ∧ Below w.heap.size w w':=by
 have HB0:Hid (∀ o,Below w.heap.size w (w.alloc o)):=Lib.hid fun o=>(Below.refl _ _).alloc (Nat.le_refl _) _
 by_cases hneg:n < 0
 ·have h0:(n + 1).toNat = 0:=by omega
  rw [h0] at hy
  obtain ⟨y0,h1,_,h2,_⟩:=h.root
  rw [hy] at h1
  cases h1
  rw [h2]
  clear h hy h2
  generalize rs.length = L at *
  go_enter Tryz.func38,Tryz.ntmps38
  go_wp2_with fail
  go_ret
  exact ⟨rfl,HB0.out _⟩
 ·obtain ⟨i,rfl⟩:∃ i:Nat,n = (i:Int):=⟨n.toNat,by omega⟩
  have hi1:((i:Int) + 1).toNat = i + 1:=by omega
  rw [hi1] at hy
  obtain ⟨r,b,A,m,c,_,hrb,hil,rfl,_,hcs⟩:=h.node i y hy
  have c11:=fun o=>(hcs (w.alloc o) (HB0.out o)).2.2.2.2.2.2.2.1
  have i1:(0:Int) ≤ (i:Int):=by omega
  have i2:(i:Int) < (rs.length:Int):=by omega
  have hop:y.op = decide (r.clo < 0):=by
   cases ho:y.op with
   | true=>have:=(hrb.2.2.2.2.2.2.1 ho).1;exact (decide_eq_true (by omega)).symm
   | false=>have:=(hrb.2.2.2.2.2.2.2.1 ho).1;exact (decide_eq_false (by omega)).symm
  rw [hop]
  generalize rs.length = L at *
  generalize r.clo = cl at *
  clear h hy hcs hil hneg hrb hop
  go_enter Tryz.func38,Tryz.ntmps38
  go_wp2_with fail
  go_ret
  exact ⟨rfl,HB0.out _⟩
end Go.Proofs.YtgjokdngbocehaaGreatDoor
