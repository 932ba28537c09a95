/-
  gimletref03: Length, Stands, Find, Begins, Ends.
-/
import Derived.Test.YtekoflcioooncaaDoorMxJ
import Derived.Test.YtekoflcioooncaaDoorMxQ
import Derived.Test.YtekoflcioooncaaDoorMxV
import Derived.Test.YtekoflcioooncaaDoorMxZB
import Derived.Test.YtekoflcioooncaaDoorMxP
import Derived.Test.YtekoflcioooncaaDoorMxZI
namespace Go.Proofs.YtekoflcioooncaaDoor
open Go.RowKit

theorem Length3_any (s : ByteArray) (w : World) (hs : s.size ≤ 1048576) :
    Calls Tryd.prog 44 #[.string s] w fun e w' => e = .returned (.int .i64 ((runesOf s).length : Int)) ∧ Below w.heap.size w w' := by
  have HS := Lib.hid (fun W => Runes3_any s W hs)
  generalize runesOf s = xs at *
  go_enter Tryd.func44, Tryd.ntmps44
  go_wp2_with fail
  (with_reducible refine (HS.out _).mono ?_)
  rintro e w1 ⟨⟨a0, n0, c0, rfl, h0⟩, b1⟩
  have hx : n0 = xs.length := by have := h0.len; simpa using this
  have HX := Lib.hid hx
  have HB := Lib.hid b1
  clear h0 hx b1
  go_wp2_with fail
  go_ret
  exact ⟨ret_int (by rw [HX.out]), HB.out⟩

set_option maxHeartbeats 1000000 in
theorem Stands3_any (a0 a1 : Option Addr) (n0 c0 n1 c1 p : Nat) (xs ys : List Int) (w : World)
    (h0 : Sl w a0 n0 (xs.map (Value.int .i32))) (h1 : Sl w a1 n1 (ys.map (Value.int .i32))) (hm0 : n0 ≤ 1048576) (hm1 : n1 ≤ 1048576) (hp : p ≤ 1048576) :
    Calls Tryd.prog 72 #[.slice a0 n0 c0, .slice a1 n1 c1, .int .i64 (p : Nat)] w fun e w' => e = .returned (.bool (standsL xs ys p)) ∧ ∃ n, w' = w.drewN n := by
  have HX : Hid (n0 = xs.length) := Lib.hid (by have := h0.len; simpa using this)
  have HY : Hid (n1 = ys.length) := Lib.hid (by have := h1.len; simpa using this)
  have H0 := Lib.hid h0
  have H1 := Lib.hid h1
  clear h0 h1
  obtain ⟨R, hR⟩ : ∃ R, standsL xs ys p = R := ⟨_, rfl⟩
  rw [hR]
  have HR := Lib.hid hR
  clear hR
  have ew : IntKind.i64.wrap ((p : Int) + (n1 : Int)) = (p : Int) + (n1 : Int) := IntWalk.i64_in _ (by omega)
  by_cases hsh : n0 < p + n1
  · have HF : Hid (false = R) := Lib.hid (by rw [← HR.out]; exact (standsL_short xs ys p (by rw [← HX.out, ← HY.out]; exact hsh)).symm)
    have q : (n0 : Int) < (p : Int) + (n1 : Int) := by omega
    go_enter Tryd.func72, Tryd.ntmps72
    go_wp2_with fail
    go_ret
    exact ⟨ret_bool HF.out, 0, rfl⟩
  have q : (p : Int) + (n1 : Int) ≤ (n0 : Int) := by omega
  have HSH := Lib.hid hsh
  go_enter Tryd.func72, Tryd.ntmps72
  go_wp2_with fail
  go_loopw [7] (fun i w' => ∃ k : Nat, k ≤ n1 ∧ i = .int .i64 k ∧ (∃ n, w' = w.drewN n) ∧ Hid (∀ j, j < k → xs[p + j]? = ys[j]?)) (fun i _ => n1 - (intOf i).toNat)
  case atStart => exact ⟨0, Nat.zero_le _, rfl, ⟨0, rfl⟩, Lib.hid fun j h => absurd h (Nat.not_lt_zero _)⟩
  case round =>
    obtain ⟨k, hk0, rfl, ⟨n, rfl⟩, hr⟩ := hrel
    by_cases hlt : k < n1
    · have l0 : p + k < xs.length := by rw [← HX.out]; omega
      have l1 : k < ys.length := by rw [← HY.out]; exact hlt
      obtain ⟨b0, o0, rfl, _, e0⟩ := H0.out.cell (p + k) (by rw [List.length_map]; exact l0)
      obtain ⟨b1, o1, rfl, _, e1⟩ := H1.out.cell k (by rw [List.length_map]; exact l1)
      simp only [List.getElem_map] at e0 e1
      have HXK : Hid (xs[p + k]? = some xs[p + k]) := Lib.hid (List.getElem?_eq_getElem l0)
      have HYK : Hid (ys[k]? = some ys[k]) := Lib.hid (List.getElem?_eq_getElem l1)
      generalize xs[p + k] = x at *
      generalize ys[k] = y at *
      have i1 : (k : Int) < (n1 : Int) := by omega
      have i2 : (0 : Int) ≤ (p : Int) + (k : Int) := by omega
      have i3 : (p : Int) + (k : Int) < (n0 : Int) := by omega
      have i4 : ((p : Int) + (k : Int)).toNat = p + k := by omega
      have ewk : IntKind.i64.wrap ((p : Int) + (k : Int)) = (p : Int) + (k : Int) := IntWalk.i64_in _ (by omega)
      have ew1 : IntKind.i64.wrap ((k : Int) + 1) = (k : Int) + 1 := IntWalk.i64_in _ (by omega)
      by_cases hxy : x = y
      · subst hxy
        have t1 : ((x : Int) != x) = false := by simp
        clear l0 l1
        go_wp2_with (go_quiet (fail))
        go_roundw
        case rel => exact ⟨k + 1, by omega, by go_num, ⟨_, rfl⟩, Lib.hid fun j hj => by
          rcases Nat.lt_or_ge j k with h | h
          · exact hr.out j h
          · rw [show j = k by omega, HXK.out, HYK.out]⟩
        case measure => simp [intOf]; omega
      · have t1 : ((x : Int) != y) = true := by simpa using hxy
        have hd : false = R := by
          rw [← HR.out]
          refine (standsL_false xs ys p k l1 fun e => ?_).symm
          rw [HXK.out, HYK.out] at e
          exact hxy (Option.some.inj e)
        have HD := Lib.hid hd
        clear l0 l1 hd hxy
        go_wp2_with (go_quiet (fail))
        go_ret
        exact ⟨ret_bool HD.out, _, by simp only [World.drewN_drewN]; rfl⟩
    · have hkn : k = n1 := by omega
      have HD : Hid (true = R) := Lib.hid (by
        rw [← HR.out]
        exact (standsL_true xs ys p (by rw [← HX.out, ← HY.out]; omega) fun i hi => hr.out i (by rw [hkn, HY.out]; exact hi)).symm)
      have i1 : (n1 : Int) ≤ (k : Int) := by omega
      go_wp2_with fail
      go_ret
      exact ⟨ret_bool HD.out, _, rfl⟩

set_option maxHeartbeats 1000000 in
theorem Begins3_any (s t : ByteArray) (w : World) (hs : s.size ≤ 1048576) (ht : t.size ≤ 1048576) :
    Calls Tryd.prog 46 #[.string s, .string t] w fun e w' => e = .returned (.bool (standsL (runesOf s) (runesOf t) 0)) ∧ Below w.heap.size w w' := by
  have HS := Lib.hid (fun W => Runes3_any s W hs)
  have HT := Lib.hid (fun W => Runes3_any t W ht)
  have hls := runesOf_length s
  have hlt := runesOf_length t
  generalize runesOf s = xs at *
  generalize runesOf t = ys at *
  go_enter Tryd.func46, Tryd.ntmps46
  go_wp2_with fail
  (with_reducible refine (HS.out _).mono ?_)
  rintro e w1 ⟨⟨a0, n0, c0, rfl, h0⟩, b1⟩
  go_wp2_with fail
  (with_reducible refine (HT.out _).mono ?_)
  rintro e w2 ⟨⟨a1, n1, c1, rfl, h1⟩, b2⟩
  have hx : n0 = xs.length := by have := h0.len; simpa using this
  have hy : n1 = ys.length := by have := h1.len; simpa using this
  have HB := Lib.hid (Below.tr b1 b2)
  have HST : Hid (Calls Tryd.prog 72 #[.slice a0 n0 c0, .slice a1 n1 c1, .int .i64 0] w2 fun e w' => e = .returned (.bool (standsL xs ys 0)) ∧ ∃ n, w' = w2.drewN n) :=
    Lib.hid (Stands3_any a0 a1 n0 c0 n1 c1 0 xs ys w2 (h0.below b2) h1 (by omega) (by omega) (by omega))
  clear h0 h1 hx hy hls hlt b1 b2
  go_wp2_with fail
  (with_reducible refine HST.out.mono ?_)
  rintro e w3 ⟨rfl, m, rfl⟩
  go_wp2_with fail
  go_ret
  exact ⟨rfl, Below.drewN HB.out m⟩

set_option maxHeartbeats 1000000 in
theorem Ends3_any (s t : ByteArray) (w : World) (hs : s.size ≤ 1048576) (ht : t.size ≤ 1048576) :
    Calls Tryd.prog 47 #[.string s, .string t] w fun e w' => e = .returned (.bool (decide ((runesOf t).length ≤ (runesOf s).length) && standsL (runesOf s) (runesOf t) ((runesOf s).length - (runesOf t).length))) ∧ Below w.heap.size w w' := by
  have HS := Lib.hid (fun W => Runes3_any s W hs)
  have HT := Lib.hid (fun W => Runes3_any t W ht)
  have hls := runesOf_length s
  have hlt := runesOf_length t
  generalize runesOf s = xs at *
  generalize runesOf t = ys at *
  obtain ⟨R, hR⟩ : ∃ R, (decide (ys.length ≤ xs.length) && standsL xs ys (xs.length - ys.length)) = R := ⟨_, rfl⟩
  rw [hR]
  have HR := Lib.hid hR
  clear hR
  go_enter Tryd.func47, Tryd.ntmps47
  go_wp2_with fail
  (with_reducible refine (HS.out _).mono ?_)
  rintro e w1 ⟨⟨a0, n0, c0, rfl, h0⟩, b1⟩
  go_wp2_with fail
  (with_reducible refine (HT.out _).mono ?_)
  rintro e w2 ⟨⟨a1, n1, c1, rfl, h1⟩, b2⟩
  have hx : n0 = xs.length := by have := h0.len; simpa using this
  have hy : n1 = ys.length := by have := h1.len; simpa using this
  have HB := Lib.hid (Below.tr b1 b2)
  by_cases hle : n1 ≤ n0
  · have HST : Hid (Calls Tryd.prog 72 #[.slice a0 n0 c0, .slice a1 n1 c1, .int .i64 ((n0 - n1 : Nat) : Int)] w2 fun e w' => e = .returned (.bool R) ∧ ∃ n, w' = w2.drewN n) := Lib.hid (by
      have := Stands3_any a0 a1 n0 c0 n1 c1 (n0 - n1) xs ys w2 (h0.below b2) h1 (by omega) (by omega) (by omega)
      rw [← HR.out, decide_eq_true (show ys.length ≤ xs.length by omega), Bool.true_and, ← hx, ← hy]
      exact this)
    have i4 : IntKind.i64.wrap ((n0 : Int) - (n1 : Int)) = ((n0 - n1 : Nat) : Int) := by rw [IntWalk.i64_in _ (by omega)]; omega
    have i3 : (n1 : Int) ≤ (n0 : Int) := by omega
    clear h0 h1 hx hy hls hlt b1 b2
    go_wp2_with fail
    (with_reducible refine HST.out.mono ?_)
    rintro e w3 ⟨rfl, m, rfl⟩
    go_wp2_with fail
    go_ret
    exact ⟨rfl, Below.drewN HB.out m⟩
  · have HF : Hid (false = R) := Lib.hid (by rw [← HR.out, decide_eq_false (show ¬ ys.length ≤ xs.length by omega), Bool.false_and])
    have i3 : (n0 : Int) < (n1 : Int) := by omega
    clear h0 h1 hx hy hls hlt b1 b2 hle
    go_wp2_with fail
    go_ret
    exact ⟨ret_bool HF.out, HB.out⟩

theorem kfind_here {st : Nat → Bool} {p m : Nat} (h : st p = true) : kfind st p m = (p : Int) := by cases m <;> simp [kfind, h]
theorem kfind_next {st : Nat → Bool} {p m : Nat} (h : st p = false) : kfind st p (m + 1) = kfind st (p + 1) m := by simp [kfind, h]
theorem kfind_end {st : Nat → Bool} {p : Nat} (h : st p = false) : kfind st p 0 = -1 := by simp [kfind, h]
set_option maxHeartbeats 1000000 in
theorem Find3_any (s t : ByteArray) (w : World) (hs : s.size ≤ 1048576) (ht : t.size ≤ 1048576) :
    Calls Tryd.prog 48 #[.string s, .string t] w fun e w' => e = .returned (.int .i64 (findL (runesOf s) (runesOf t))) ∧ Below w.heap.size w w' := by
  have HS := Lib.hid (fun W => Runes3_any s W hs)
  have HT := Lib.hid (fun W => Runes3_any t W ht)
  have hls := runesOf_length s
  have hlt := runesOf_length t
  generalize runesOf s = xs at *
  generalize runesOf t = ys at *
  obtain ⟨R, hR⟩ : ∃ R, findL xs ys = R := ⟨_, rfl⟩
  rw [hR]
  have HR := Lib.hid hR
  clear hR
  go_enter Tryd.func48, Tryd.ntmps48
  go_wp2_with fail
  (with_reducible refine (HS.out _).mono ?_)
  rintro e w1 ⟨⟨a0, n0, c0, rfl, h0⟩, b1⟩
  go_wp2_with fail
  (with_reducible refine (HT.out _).mono ?_)
  rintro e w2 ⟨⟨a1, n1, c1, rfl, h1⟩, b2⟩
  have hx : n0 = xs.length := by have := h0.len; simpa using this
  have hy : n1 = ys.length := by have := h1.len; simpa using this
  have HB := Lib.hid (Below.tr b1 b2)
  have HST : Hid (∀ (m p : Nat), p ≤ n0 → Calls Tryd.prog 72 #[.slice a0 n0 c0, .slice a1 n1 c1, .int .i64 (p : Nat)] (w2.drewN m) fun e w' => e = .returned (.bool (standsL xs ys p)) ∧ ∃ n, w' = w2.drewN n) :=
    Lib.hid fun m p hp => (Stands3_any a0 a1 n0 c0 n1 c1 p xs ys (w2.drewN m) ((h0.below b2).keep fun _ _ _ => rfl) (h1.keep fun _ _ _ => rfl) (by omega) (by omega) (by omega)).mono fun e w' ⟨q1, n, q2⟩ => ⟨q1, m + n, by rw [q2, World.drewN_drewN]⟩
  have HX := Lib.hid hx
  have hn0 : n0 ≤ 1048576 := by omega
  clear h0 h1 hx hy hls hlt b1 b2
  go_wp2_with fail
  go_loopw [7] (fun i w' => ∃ k : Nat, k ≤ n0 + 1 ∧ i = .int .i64 k ∧ (∃ n, w' = w2.drewN n) ∧ Hid ((k ≤ n0 → kfind (standsL xs ys) k (n0 - k) = R) ∧ (k = n0 + 1 → -1 = R))) (fun i _ => n0 + 1 - (intOf i).toNat)
  case atStart => exact ⟨0, Nat.zero_le _, rfl, ⟨0, rfl⟩, Lib.hid ⟨fun _ => by rw [Nat.sub_zero, HX.out]; exact HR.out, fun h => by omega⟩⟩
  case round =>
    obtain ⟨k, hk0, rfl, ⟨m, rfl⟩, HQ⟩ := hrel
    by_cases hlt : k ≤ n0
    · have HSK := Lib.hid (HST.out m k hlt)
      have i1 : (k : Int) ≤ (n0 : Int) := by omega
      have ew1 : IntKind.i64.wrap ((k : Int) + 1) = (k : Int) + 1 := IntWalk.i64_in _ (by omega)
      cases hst : standsL xs ys k with
      | true =>
        rw [hst] at HSK
        have HF : Hid ((k : Int) = R) := Lib.hid (by rw [← HQ.out.1 hlt]; exact (kfind_here hst).symm)
        clear hst
        go_wp2_with fail
        (with_reducible refine HSK.out.mono ?_)
        rintro e w3 ⟨rfl, m3, rfl⟩
        go_wp2_with fail
        go_ret
        exact ⟨ret_int HF.out, Below.drewN HB.out m3⟩
      | false =>
        rw [hst] at HSK
        have HF : Hid ((k + 1 ≤ n0 → kfind (standsL xs ys) (k + 1) (n0 - (k + 1)) = R) ∧ (k + 1 = n0 + 1 → -1 = R)) := Lib.hid (by
          have h1 := HQ.out.1 hlt
          refine ⟨fun h => ?_, fun h => ?_⟩
          · rw [show n0 - k = n0 - (k + 1) + 1 by omega, kfind_next hst] at h1; exact h1
          · rw [show n0 - k = 0 by omega, kfind_end hst] at h1; exact h1)
        clear hst
        go_wp2_with fail
        (with_reducible refine HSK.out.mono ?_)
        rintro e w3 ⟨rfl, m3, rfl⟩
        go_wp2_with fail
        go_roundw
        case rel => exact ⟨k + 1, by omega, by go_num, ⟨_, rfl⟩, HF⟩
        case measure => simp [intOf]; omega
    · have HF : Hid (-1 = R) := Lib.hid (HQ.out.2 (by omega))
      have i1 : (n0 : Int) < (k : Int) := by omega
      go_wp2_with fail
      go_ret
      exact ⟨ret_int HF.out, Below.drewN HB.out m⟩
end Go.Proofs.YtekoflcioooncaaDoor

namespace Go.Proofs.YtekoflcioooncaaDoor
open Go.RowKit

def cmpQ (s : List UInt8) (c : Int) (t : List UInt8) (n : Int) : Value := .tuple #[.bool ((cmpB s c t n).getD false), .bool (cmpB s c t n).isSome]
theorem cmpQ_some {s : List UInt8} {c : Int} {t : List UInt8} {n : Int} {b : Bool} (h : cmpB s c t n = some b) : cmpQ s c t n = .tuple #[.bool b, .bool true] := by unfold cmpQ; rw [h]; rfl
theorem cmpQ_none {s : List UInt8} {c : Int} {t : List UInt8} {n : Int} (h : cmpB s c t n = none) : cmpQ s c t n = .tuple #[.bool false, .bool false] := by unfold cmpQ; rw [h]; rfl
set_option maxRecDepth 100000 in
set_option maxHeartbeats 4000000 in
theorem Compared12_any (s t : List UInt8) (c n : Int) (w : World) (hs : s.length ≤ 1048576) (ht : t.length ≤ 1048576) :
    Calls Tryd.prog 21 #[.string (strL s), .int .i64 c, .string (strL t), .int .i64 n] w fun e w' => e = .returned (cmpQ s c t n) ∧ Below w.heap.size w w' := by
  have hs' : (strL s).size ≤ 1048576 := by rw [strL_size]; exact hs
  have ht' : (strL t).size ≤ 1048576 := by rw [strL_size]; exact ht
  have HC := Lib.hid fun W => Cmp3_any (strL s) (strL t) W hs' ht'
  have HBG := Lib.hid fun W => Begins3_any (strL s) (strL t) W hs' ht'
  have HEN := Lib.hid fun W => Ends3_any (strL s) (strL t) W hs' ht'
  have HFI := Lib.hid fun W => Find3_any (strL s) (strL t) W hs' ht'
  have HLE := Lib.hid fun W => Length3_any (strL s) W hs'
  clear hs ht hs' ht'
  by_cases hc : c < 0 ∨ 8 < c
  · rw [cmpQ_none (cmpB_none hc)]
    have t0 : (c == 0) = false := by simp; omega
    have t1 : (c == 1) = false := by simp; omega
    have t2 : (c == 2) = false := by simp; omega
    have t3 : (c == 3) = false := by simp; omega
    have t4 : (c == 4) = false := by simp; omega
    have t5 : (c == 5) = false := by simp; omega
    have t6 : (c == 6) = false := by simp; omega
    have t7 : (c == 7) = false := by simp; omega
    have t8 : (c == 8) = false := by simp; omega
    clear hc
    go_enter Tryd.func21, Tryd.ntmps21
    go_wp2_with fail
    (with_reducible refine (HLE.out _).mono ?_)
    rintro e w0 ⟨rfl, hb0⟩
    go_wp2_with fail
    go_ret2
    exact ⟨rfl, hb0⟩
  have hc2 : c = 0 ∨ c = 1 ∨ c = 2 ∨ c = 3 ∨ c = 4 ∨ c = 5 ∨ c = 6 ∨ c = 7 ∨ c = 8 := by omega
  clear hc
  rcases hc2 with rfl | rfl | rfl | rfl | rfl | rfl | rfl | rfl | rfl
  · rw [cmpQ_some (b := true) rfl]
    go_enter Tryd.func21, Tryd.ntmps21
    go_wp2_with fail
    (with_reducible refine (HLE.out _).mono ?_)
    rintro e w0 ⟨rfl, hb0⟩
    go_wp2_with fail
    go_ret2
    exact ⟨rfl, hb0⟩
  · rw [cmpQ_some (b := decide (cmpL (runesOf (strL s)) (runesOf (strL t)) = 0)) rfl]
    generalize cmpL (runesOf (strL s)) (runesOf (strL t)) = v at *
    obtain ⟨R, hR⟩ : ∃ R, decide (v = 0) = R := ⟨_, rfl⟩
    rw [hR]
    have t1 : ((v : Int) == 0) = R := by rw [← hR]; rfl
    clear hR
    go_enter Tryd.func21, Tryd.ntmps21
    go_wp2_with fail
    (with_reducible refine (HLE.out _).mono ?_)
    rintro e w0 ⟨rfl, hb0⟩
    go_wp2_with fail
    (with_reducible refine (HC.out _).mono ?_)
    rintro e w1 ⟨rfl, hb⟩
    go_wp2_with fail
    go_ret2
    exact ⟨rfl, Below.tr hb0 hb⟩
  · rw [cmpQ_some (b := decide (cmpL (runesOf (strL s)) (runesOf (strL t)) ≠ 0)) rfl]
    generalize cmpL (runesOf (strL s)) (runesOf (strL t)) = v at *
    obtain ⟨R, hR⟩ : ∃ R, decide (v ≠ 0) = R := ⟨_, rfl⟩
    rw [hR]
    have t1 : ((v : Int) != 0) = R := by rw [← hR]; by_cases h : v = 0 <;> simp [h]
    clear hR
    go_enter Tryd.func21, Tryd.ntmps21
    go_wp2_with fail
    (with_reducible refine (HLE.out _).mono ?_)
    rintro e w0 ⟨rfl, hb0⟩
    go_wp2_with fail
    (with_reducible refine (HC.out _).mono ?_)
    rintro e w1 ⟨rfl, hb⟩
    go_wp2_with fail
    go_ret2
    exact ⟨rfl, Below.tr hb0 hb⟩
  · rw [cmpQ_some (b := standsL (runesOf (strL s)) (runesOf (strL t)) 0) rfl]
    generalize standsL (runesOf (strL s)) (runesOf (strL t)) 0 = v at *
    go_enter Tryd.func21, Tryd.ntmps21
    go_wp2_with fail
    (with_reducible refine (HLE.out _).mono ?_)
    rintro e w0 ⟨rfl, hb0⟩
    go_wp2_with fail
    (with_reducible refine (HBG.out _).mono ?_)
    rintro e w1 ⟨rfl, hb⟩
    go_wp2_with fail
    go_ret2
    exact ⟨rfl, Below.tr hb0 hb⟩
  · rw [cmpQ_some (b := decide ((runesOf (strL t)).length ≤ (runesOf (strL s)).length) && standsL (runesOf (strL s)) (runesOf (strL t)) ((runesOf (strL s)).length - (runesOf (strL t)).length)) rfl]
    generalize (decide ((runesOf (strL t)).length ≤ (runesOf (strL s)).length) && standsL (runesOf (strL s)) (runesOf (strL t)) ((runesOf (strL s)).length - (runesOf (strL t)).length)) = v at *
    go_enter Tryd.func21, Tryd.ntmps21
    go_wp2_with fail
    (with_reducible refine (HLE.out _).mono ?_)
    rintro e w0 ⟨rfl, hb0⟩
    go_wp2_with fail
    (with_reducible refine (HEN.out _).mono ?_)
    rintro e w1 ⟨rfl, hb⟩
    go_wp2_with fail
    go_ret2
    exact ⟨rfl, Below.tr hb0 hb⟩
  · rw [cmpQ_some (b := decide (0 ≤ findL (runesOf (strL s)) (runesOf (strL t)))) rfl]
    generalize findL (runesOf (strL s)) (runesOf (strL t)) = v at *
    go_enter Tryd.func21, Tryd.ntmps21
    go_wp2_with fail
    (with_reducible refine (HLE.out _).mono ?_)
    rintro e w0 ⟨rfl, hb0⟩
    go_wp2_with fail
    (with_reducible refine (HFI.out _).mono ?_)
    rintro e w1 ⟨rfl, hb⟩
    go_wp2_with fail
    go_ret2
    exact ⟨rfl, Below.tr hb0 hb⟩
  · rw [cmpQ_some (b := decide (((runesOf (strL s)).length : Int) = n)) rfl]
    generalize ((runesOf (strL s)).length : Int) = v at *
    obtain ⟨R, hR⟩ : ∃ R, decide (v = n) = R := ⟨_, rfl⟩
    rw [hR]
    have t1 : ((v : Int) == n) = R := by rw [← hR]; rfl
    clear hR
    go_enter Tryd.func21, Tryd.ntmps21
    go_wp2_with fail
    (with_reducible refine (HLE.out _).mono ?_)
    rintro e w0 ⟨rfl, hb0⟩
    go_wp2_with fail
    go_ret2
    exact ⟨rfl, hb0⟩
  · rw [cmpQ_some (b := decide (n < ((runesOf (strL s)).length : Int))) rfl]
    generalize ((runesOf (strL s)).length : Int) = v at *
    go_enter Tryd.func21, Tryd.ntmps21
    go_wp2_with fail
    (with_reducible refine (HLE.out _).mono ?_)
    rintro e w0 ⟨rfl, hb0⟩
    go_wp2_with fail
    go_ret2
    exact ⟨rfl, hb0⟩
  · rw [cmpQ_some (b := decide (((runesOf (strL s)).length : Int) < n)) rfl]
    generalize ((runesOf (strL s)).length : Int) = v at *
    go_enter Tryd.func21, Tryd.ntmps21
    go_wp2_with fail
    (with_reducible refine (HLE.out _).mono ?_)
    rintro e w0 ⟨rfl, hb0⟩
    go_wp2_with fail
    go_ret2
    exact ⟨rfl, hb0⟩
end Go.Proofs.YtekoflcioooncaaDoor

namespace Go.Proofs.YtekoflcioooncaaDoor
open Go.RowKit

def Bot (s : BegS) : Prop := ∀ a, [a] <:+ s.opn → a.1 = 0
theorem Bot.step {pre : List Ev} {s : BegS} {nds : List Nd} {e : Ev} (hi : NdInv pre s nds) (h : Bot s) (he : begOk s e = true) : Bot (begNext s e) := by
  intro a ha
  by_cases hk : e.kind = 2
  · have hh := begOk_close he hk
    obtain ⟨rest, hr⟩ : ∃ rest, s.opn = (e.num, e.dep, e.name) :: rest := by
      cases ho : s.opn with
      | nil => rw [ho] at hh; cases hh
      | cons a r => rw [ho] at hh; simp at hh; exact ⟨r, by rw [hh]⟩
    have hop : (begNext s e).opn = rest := by unfold begNext; simp [hk, hr]
    rw [hop] at ha
    exact h a (by rw [hr]; exact ha.trans (List.suffix_cons _ _))
  · obtain ⟨hn, hk01⟩ := begOk_new he hk
    rcases hk01 with h0 | h1
    · have hop : (begNext s e).opn = (e.num, e.dep, e.name) :: s.opn := by unfold begNext; simp [h0]
      rw [hop] at ha
      rcases List.suffix_cons_iff.1 ha with h2 | h2
      · simp only [List.cons.injEq] at h2
        obtain ⟨h3, h4⟩ := h2
        have hc : s.cnt = 0 := by
          unfold begOk at he
          rw [if_pos h0] at he
          simp only [Bool.and_eq_true, decide_eq_true_eq] at he
          rcases he.1.1.1 with h5 | h5
          · exact h5
          · exact absurd h4.symm h5
        have hnx := hi.nxt
        have hl : nds.length = 0 := by
          cases hnd : nds with
          | nil => rfl
          | cons x r =>
            obtain ⟨e', he', _⟩ := hi.here 0 x (by rw [hnd]; rfl)
            have := get_lt he'
            have := hi.cnt
            omega
        rw [h3]
        simp only
        omega
      · exact h a h2
    · have hop : (begNext s e).opn = s.opn := by unfold begNext; simp [h1]
      rw [hop] at ha
      exact h a ha
theorem Bot.all {pre : List Ev} {s : BegS} {nds : List Nd} (hi : NdInv pre s nds) (h : Bot s) : ∀ (l : List Ev) {t : BegS}, begAll s l = some t → Bot t := by
  intro l
  induction l generalizing pre s nds with
  | nil => intro t ht; simp only [begAll, Option.some.injEq] at ht; subst ht; exact h
  | cons e l ih =>
    intro t ht
    unfold begAll at ht
    split at ht
    · rename_i he
      exact ih (hi.step he) (h.step hi he) ht
    · cases ht
theorem last_root {evs : List Ev} (h : wholeB evs = true) : lastN evs 0 + 1 = (nodesB evs).length := by
  have hpos := wholeB_pos h
  obtain ⟨t, ht, hne, hop⟩ := wholeB_some h
  obtain ⟨pre, e, rfl⟩ : ∃ pre e, evs = pre ++ [e] := ⟨evs.dropLast, evs.getLast hne, (List.dropLast_concat_getLast hne).symm⟩
  rw [begAll_snoc] at ht
  cases hs : begAll beg0 pre with
  | none => rw [hs] at ht; cases ht
  | some s =>
    rw [hs] at ht
    simp only [Option.bind_some] at ht
    split at ht
    · rename_i he
      obtain rfl := Option.some.inj ht
      have hk : e.kind = 2 := by
        by_cases hk : e.kind = 2
        · exact hk
        · obtain ⟨_, hk01⟩ := begOk_new he hk
          rcases hk01 with h0 | h1
          · have : (begNext s e).opn = (e.num, e.dep, e.name) :: s.opn := by unfold begNext; simp [h0]
            rw [this] at hop; cases hop
          · have h2 : (begNext s e).opn = s.opn := by unfold begNext; simp [h1]
            rw [h2] at hop
            unfold begOk at he
            rw [if_neg (by omega), if_pos h1] at he
            simp [hop] at he
      have hh := begOk_close he hk
      obtain ⟨rest, hr⟩ : ∃ rest, s.opn = (e.num, e.dep, e.name) :: rest := by
        cases ho : s.opn with
        | nil => rw [ho] at hh; cases hh
        | cons a r => rw [ho] at hh; simp at hh; exact ⟨r, by rw [hh]⟩
      have hop2 : (begNext s e).opn = rest := by unfold begNext; simp [hk, hr]
      rw [hop2] at hop
      subst hop
      have hb : Bot s := Bot.all NdInv.start (fun a ha => by simp [beg0] at ha) pre hs
      have hz := hb (e.num, e.dep, e.name) (by rw [hr]; exact List.suffix_rfl)
      simp only at hz
      have hnb : nodesB (pre ++ [e]) = ndNext s (nodesB pre) e := ndAll_snoc _ _ _ _ hs
      have hnl : (nodesB (pre ++ [e])).length = (nodesB pre).length := by rw [hnb]; unfold ndNext; rw [if_pos hk, List.length_modify]
      have h0 : 0 < (nodesB pre).length := by omega
      unfold lastN
      rw [hnl]
      rw [hnb]
      unfold ndNext
      rw [if_pos hk, List.getElem?_modify, List.getElem?_eq_getElem h0, hz]
      simp
      omega
    · cases ht
theorem begR_whole (evs : List Ev) : (wholeB evs = true → begR evs = (true, 0, true)) ∧ (wholeB evs = false → (begR evs).1 = false ∨ (begR evs).2.2 = false) := by
  constructor
  · intro h
    obtain ⟨t, ht, hne, hop⟩ := wholeB_some h
    rw [begR_all ht, hop]
    simp [hne]
  · intro h
    unfold wholeB at h
    unfold begR
    cases hs : begAll beg0 evs with
    | none => exact .inl rfl
    | some s => rw [hs] at h; exact .inr h
end Go.Proofs.YtekoflcioooncaaDoor
