/-
  gimletref02: Read, All, Texts.
-/
import Derived.Test.YtlomcmichbnkaaaGreatDoorRef02S
import Derived.Test.YtlomcmichbnkaaaGreatDoorRef02B
import Derived.Test.YtlomcmichbnkaaaGreatDoorRef05E
import Derived.Test.YtlomcmichbnkaaaGreatDoorCutW
import Derived.Lib.ConvBytes
import Derived.Deep.RegionHeld3
namespace Go.Proofs.YtlomcmichbnkaaaGreatDoor
open Go.RowKit

theorem cmpU_eq {a b : List UInt8} (h : a = b) : ((strU a).toList == (strU b).toList) = true := str_eq h
theorem cmpU_ne {a b : List UInt8} (h : a ≠ b) : ((strU a).toList == (strU b).toList) = false := str_ne h
theorem readR_succ (l : List UInt8) (f n : Nat) : readR l (f + 1) n = if n ≤ 4 ∧ n ≤ l.length then (if hitN l n = true then (if surr (spanL (l.take n)).1 = true then (0, 0) else ((spanL (l.take n)).1, n)) else readR l f (n + 1)) else (0, 0) := rfl

def cvOp : Op := Op.convert 31 9 (Operand.tmp 37)
theorem cvOp_eq : cvOp = Op.convert 31 9 (Operand.tmp 37) := rfl
set_option maxRecDepth 1000000 in
set_option maxHeartbeats 4000000 in
theorem Read2_any (l : List UInt8) (hl : l.length ≤ 8388608) (k : Nat) (hk : k ≤ l.length) (w : World) :
    Calls Tryz.prog 39 #[.string (strU l), .int .i64 k] w fun e w' => RetSp e (readR (l.drop k) 4 1) ∧ Below w.heap.size w w' := by
  obtain ⟨N, hN⟩ : ∃ N, N = l.length := ⟨_, rfl⟩
  have hsz : (strU l).size = N := by rw [strU_size, hN]
  have HDL : Hid ((l.drop k).length = N - k) := Lib.hid (by rw [List.length_drop, hN])
  have HEX : Hid (∀ n, (strU l).extract k (k + n) = strU ((l.drop k).take n)) := Lib.hid fun n => by rw [extU, Nat.add_sub_cancel_left]
  rw [← hN] at hl hk
  clear hN
  generalize hS : strU l = S at *
  generalize l.drop k = d at *
  clear hS
  go_enter Tryz.func39, Tryz.ntmps39
  go_wp2_with fail
  go_loopw [6] (fun nv wr => ∃ n f : Nat, nv = .int .i64 n ∧ f + n = 5 ∧ 1 ≤ n ∧ Below w.heap.size w wr ∧ Hid (readR d f n = readR d 4 1)) (fun nv _ => 5 - (intOf nv).toNat)
  case atStart => exact ⟨1, 4, rfl, rfl, Nat.le_refl _, Below.refl _ _, rfl⟩
  case round =>
    obtain ⟨n, f, rfl, hfn, hn1, hbr, hr⟩ := hrel
    by_cases h4 : n ≤ 4
    · by_cases hkn : k + n ≤ N
      · obtain ⟨f, rfl⟩ : ∃ g, f = g + 1 := ⟨f - 1, by omega⟩
        have hd := hr.out
        rw [readR_succ, if_pos ⟨h4, by rw [HDL.out]; omega⟩] at hd
        have hex := HEX.out n
        have hcv := fun W => Lib.run_convert_string_bytes (P := Tryz.prog) W 9 31 5 (strU (d.take n)) Tryz.underlying9 Tryz.underlying31 Tryz.underlying5
        have hWb := bytesW_below wr 5 (strU (d.take n))
        have HB2 := Lib.hid (hbr.trans (hWb.mono hbr.size))
        have HSP := Lib.hid (Span_any _ _ _ (d.take n) _ (bytesW_sl wr 5 (strU (d.take n))) (grownCap_ge wr _ 0 5))
        have hsame := span_same (d.take n)
        have ew : IntKind.i64.wrap ((k : Int) + (n : Int)) = ((k + n : Nat) : Int) := by rw [IntWalk.i64_in _ (by omega)]; omega
        clear hWb hbr hr
        unfold hitN at hd
        generalize spanL (d.take n) = p at *
        obtain ⟨p1, p2⟩ := p
        simp only at hd hsame
        have it : ((k : Int) + (n : Int)).toNat = k + n := by omega
        have i1 : (0 : Int) ≤ (k : Int) := by omega
        have i2 : (k : Int) ≤ ((k + n : Nat) : Int) := by omega
        have i3 : ((k + n : Nat) : Int) ≤ (N : Int) := by omega
        have i4 : (k : Int) ≤ (k : Int) + (n : Int) := by omega
        have i5 : (k : Int) + (n : Int) ≤ (N : Int) := by omega
        by_cases hpp : p1 = p2
        · subst hpp
          have hp1 := hsame rfl
          have HBY := Lib.hid (Bytes_any p1 hp1)
          have tq : ((p1 : Int) == (p1 : Int)) = true := by simp
          by_cases hcm : encU p1 = d.take n
          · have hc := cmpU_eq hcm
            have hd2 : (if surr p1 = true then (0, 0) else (p1, n)) = readR d 4 1 := by rw [← hd, hcm]; simp
            have HD := Lib.hid hd2
            clear hd hd2 hsame hcm
            generalize strU (d.take n) = X at *
            go_wp2_with fail
            (with_reducible refine HSP.out.mono ?_)
            rintro e w4 ⟨rfl, rfl⟩
            generalize Lib.bytesWorld wr 5 X = w4 at *
            go_wp2_with fail
            have hS7d : Below w.heap.size w w4.drew := HB2.out.drew
            rw [← cvOp_eq]
            have hcvo := cvOp_eq
            go_region_held3 (fun w' => Below w.heap.size w w') (first | exact ‹_› | go_keep) (first | (go_at_call 16; (with_reducible refine (HBY.out _).mono ?_); rintro e wz ⟨⟨a5, n5, c5, rfl, hsl⟩, hbz⟩; have hbz2 := (‹Below w.heap.size w _›).trans (hbz.mono (by have := HB2.out.size; simp at this ⊢; omega)); have hcb := run_bytes_str (P := Tryz.prog) (s := strU (encU p1)) hsl 31 9 5 Tryz.underlying31 Tryz.underlying5 Tryz.underlying9 c5))
            clear hbz hsl hcb hcvo
            by_cases hs : surr p1 = true
            · have HE : Hid ((0, 0) = readR d 4 1) := Lib.hid (by rw [← HD.out, if_pos hs])
              unfold surr at hs
              simp only [decide_eq_true_eq] at hs
              obtain ⟨hs1, hs2⟩ := hs
              go_wp2_with fail
              go_ret2
              exact ⟨by rw [← HE.out]; rfl, hbz2⟩
            · have HE : Hid ((p1, n) = readR d 4 1) := Lib.hid (by rw [← HD.out, if_neg hs])
              unfold surr at hs
              simp only [decide_eq_true_eq] at hs
              by_cases hs1 : 55296 ≤ p1
              · have hs2 : 57343 < p1 := by omega
                go_wp2_with fail
                go_ret2
                exact ⟨by rw [← HE.out]; rfl, hbz2⟩
              · have hs2 : p1 < 55296 := by omega
                go_wp2_with fail
                go_ret2
                exact ⟨by rw [← HE.out]; rfl, hbz2⟩
          · have hc := cmpU_ne hcm
            have hd2 : readR d f (n + 1) = readR d 4 1 := by rw [← hd, if_neg (by simp [hcm])]
            have HD := Lib.hid hd2
            clear hd hd2 hsame hcm
            generalize strU (d.take n) = X at *
            go_wp2_with fail
            (with_reducible refine HSP.out.mono ?_)
            rintro e w4 ⟨rfl, rfl⟩
            generalize Lib.bytesWorld wr 5 X = w4 at *
            go_wp2_with fail
            have hS7d : Below w.heap.size w w4.drew := HB2.out.drew
            rw [← cvOp_eq]
            have hcvo := cvOp_eq
            go_region_held3 (fun w' => Below w.heap.size w w') (first | exact ‹_› | go_keep) (first | (go_at_call 16; (with_reducible refine (HBY.out _).mono ?_); rintro e wz ⟨⟨a5, n5, c5, rfl, hsl⟩, hbz⟩; have hbz2 := (‹Below w.heap.size w _›).trans (hbz.mono (by have := HB2.out.size; simp at this ⊢; omega)); have hcb := run_bytes_str (P := Tryz.prog) (s := strU (encU p1)) hsl 31 9 5 Tryz.underlying31 Tryz.underlying5 Tryz.underlying9 c5))
            clear hbz hsl hcb hcvo
            go_wp2_with fail
            go_roundw
            case rel => exact ⟨n + 1, f, by go_num, by omega, by omega, hbz2, HD⟩
            case measure => simp [intOf]; omega
        · have tq : ((p1 : Int) == (p2 : Int)) = false := by simp; omega
          have hd2 : readR d f (n + 1) = readR d 4 1 := by rw [← hd, if_neg (by simp [hpp])]
          have HD := Lib.hid hd2
          clear hd hd2 hsame hpp
          generalize strU (d.take n) = X at *
          go_wp2_with fail
          (with_reducible refine HSP.out.mono ?_)
          rintro e w4 ⟨rfl, rfl⟩
          generalize Lib.bytesWorld wr 5 X = w4 at *
          go_wp2_with fail
          go_quiet (fail)
          go_wp2_with fail
          go_roundw
          case rel => exact ⟨n + 1, f, by go_num, by omega, by omega, Below.drewN HB2.out _, HD⟩
          case measure => simp [intOf]; omega
      · have hd := hr.out
        have hkn2 : N < k + n := by omega
        obtain ⟨f, rfl⟩ : ∃ g, f = g + 1 := ⟨f - 1, by omega⟩
        rw [readR_succ, if_neg (by rw [HDL.out]; omega)] at hd
        have HE := Lib.hid hd
        clear hd hr hkn
        go_wp2_with fail
        go_ret2
        exact ⟨by rw [← HE.out]; rfl, hbr⟩
    · have h5 : 5 ≤ n := by omega
      obtain rfl : f = 0 := by omega
      have HE : Hid ((0, 0) = readR d 4 1) := Lib.hid hr.out
      clear hr h4
      go_wp2_with fail
      go_ret2
      exact ⟨by rw [← HE.out]; rfl, hbr⟩
#print axioms Read2_any
end Go.Proofs.YtlomcmichbnkaaaGreatDoor
