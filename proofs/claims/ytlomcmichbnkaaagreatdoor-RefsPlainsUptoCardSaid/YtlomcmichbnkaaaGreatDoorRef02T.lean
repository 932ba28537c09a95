/-
  gimletref02: All, Texts.
-/
import Derived.Test.YtlomcmichbnkaaaGreatDoorRef02R
namespace Go.Proofs.YtlomcmichbnkaaaGreatDoor
open Go.RowKit

theorem textsR_succ (f : Nat) (l : List UInt8) : textsR (f + 1) l = if l = [] then true else if (readR l 4 1).2 = 0 ∨ isR (rng 0) (readR l 4 1).1 = false then false else textsR f (l.drop (readR l 4 1).2) := rfl
theorem readR_le (l : List UInt8) : ∀ f n, (readR l f n).2 ≤ l.length
  | 0, _ => Nat.zero_le _
  | f + 1, n => by
    rw [readR_succ]
    split
    · split
      · split
        · exact Nat.zero_le _
        · rename_i h _ _; exact h.2
      · exact readR_le l f (n + 1)
    · exact Nat.zero_le _
theorem textsR_nil (f : Nat) : textsR f [] = true := by cases f <;> rfl

set_option maxRecDepth 100000 in
set_option maxHeartbeats 4000000 in
theorem All2_any (l : List UInt8) (hl : l.length ≤ 8388608) (w : World) :
    Calls Tryz.prog 26 #[.string (strU l), .int .i64 0, .int .i64 0] w fun e w' => e = .returned (.bool (textsB l)) ∧ Below w.heap.size w w' := by
  rw [← textsR_eq l.length l (Nat.le_refl _)]
  obtain ⟨N, hN⟩ : ∃ N, N = l.length := ⟨_, rfl⟩
  have hsz : (strU l).size = N := by rw [strU_size, hN]
  have HRD : Hid (∀ (k : Nat) (W : World), k ≤ N → Calls Tryz.prog 39 #[.string (strU l), .int .i64 k] W fun e w' => RetSp e (readR (l.drop k) 4 1) ∧ Below W.heap.size W w') := Lib.hid fun k W hk => Read2_any l hl k (by omega) W
  have HDL : Hid (∀ k, (l.drop k).length = N - k) := Lib.hid fun k => by rw [List.length_drop, hN]
  have HIS : Hid (∀ (r : Nat) W, Calls Tryz.prog 40 #[.int .i64 0, .int .i64 r] W fun e w' => e = .returned (.bool (isR (rng 0) r)) ∧ Below W.heap.size W w') := Lib.hid fun r W => Is2_any 0 (by decide) r W
  rw [← hN] at hl ⊢
  clear hN
  generalize hT : textsR N l = T at *
  have HT := Lib.hid hT
  clear hT
  generalize strU l = S at *
  go_enter Tryz.func26, Tryz.ntmps26
  go_wp2_with fail
  go_loopw [7, 8] (fun cv av wr => cv = .int .i64 0 ∧ ∃ k : Nat, av = .int .i64 k ∧ k ≤ N ∧ Below w.heap.size w wr ∧ Hid (textsR (N - k) (l.drop k) = T)) (fun _ av _ => N - (intOf av).toNat)
  case atStart => exact ⟨rfl, 0, rfl, Nat.zero_le _, Below.refl _ _, Lib.hid (by rw [Nat.sub_zero, List.drop_zero]; exact HT.out)⟩
  case round =>
    obtain ⟨rfl, k, rfl, hk, hbr, hr⟩ := hrel
    by_cases hkN : k < N
    · have hd := hr.out
      have hlen := HDL.out k
      rw [show N - k = (N - (k + 1)) + 1 by omega, textsR_succ, if_neg (by intro h; rw [h] at hlen; simp at hlen; omega)] at hd
      have HRK := Lib.hid (HRD.out k wr hk)
      have hle := readR_le (l.drop k) 4 1
      rw [hlen] at hle
      generalize hp : readR (l.drop k) 4 1 = p at *
      clear hp
      obtain ⟨r, n⟩ := p
      simp only at hd hle
      clear hr hlen
      by_cases hn : n = 0
      · subst hn
        have HE : Hid (T = false) := Lib.hid (by rw [← hd, if_pos (.inl rfl)])
        clear hd
        go_wp2_with fail
        (with_reducible refine HRK.out.mono ?_)
        rintro e w1 ⟨rfl, hb1⟩
        go_wp2_with fail
        go_ret
        exact ⟨ret_bool (by rw [HE.out]), hbr.trans (hb1.mono hbr.size)⟩
      · have hn0 : ((n : Int) == 0) = false := by simp; omega
        cases hi : isR (rng 0) r with
        | false =>
          have HE : Hid (T = false) := Lib.hid (by rw [← hd, if_pos (.inr hi)])
          have HII := Lib.hid (HIS.out r)
          rw [hi] at HII
          clear hd hi
          go_wp2_with fail
          (with_reducible refine HRK.out.mono ?_)
          rintro e w1 ⟨rfl, hb1⟩
          have hb1 := hbr.trans (hb1.mono hbr.size)
          go_wp2_with fail
          (with_reducible refine (HII.out _).mono ?_)
          rintro e w2 ⟨rfl, hb2⟩
          go_wp2_with fail
          go_ret
          exact ⟨ret_bool (by rw [HE.out]), hb1.trans (hb2.mono hb1.size)⟩
        | true =>
          have hd2 : textsR (N - (k + 1)) (l.drop (k + n)) = T := by
            rw [if_neg (by rw [hi]; simp; omega), List.drop_drop] at hd
            exact hd
          have hd3 : textsR (N - (k + n)) (l.drop (k + n)) = T := by
            rw [← hd2, textsR_eq _ _ (by rw [HDL.out]; exact Nat.le_refl _), textsR_eq _ _ (by rw [HDL.out]; omega)]
          have HE := Lib.hid hd3
          have HII := Lib.hid (HIS.out r)
          rw [hi] at HII
          clear hd hd2 hd3 hi
          go_wp2_with fail
          (with_reducible refine HRK.out.mono ?_)
          rintro e w1 ⟨rfl, hb1⟩
          have hb1 := hbr.trans (hb1.mono hbr.size)
          go_wp2_with fail
          (with_reducible refine (HII.out _).mono ?_)
          rintro e w2 ⟨rfl, hb2⟩
          have hb2 := hb1.trans (hb2.mono hb1.size)
          go_wp2_with fail
          go_roundw
          case rel => exact ⟨rfl, k + n, by go_num, by omega, hb2, HE⟩
          case measure => simp [intOf]; omega
    · have hkN2 : N ≤ k := by omega
      have hd := hr.out
      have HE : Hid (T = true) := Lib.hid (by rw [← hd, List.eq_nil_of_length_eq_zero (l := l.drop k) (by rw [HDL.out]; omega), textsR_nil])
      clear hd hr hkN
      go_wp2_with fail
      go_ret
      exact ⟨ret_bool (by rw [HE.out]), hbr⟩
theorem Texts2_any (l : List UInt8) (hl : l.length ≤ 8388608) (w : World) :
    Calls Tryz.prog 14 #[.string (strU l)] w fun e w' => e = .returned (.bool (textsB l)) ∧ Below w.heap.size w w' := by
  have HA := Lib.hid (All2_any l hl w)
  generalize strU l = S at *
  go_enter Tryz.func14, Tryz.ntmps14
  go_wp2_with fail
  (with_reducible refine HA.out.mono ?_)
  rintro e w1 ⟨rfl, hb1⟩
  go_wp2_with fail
  go_ret
  exact ⟨rfl, hb1⟩
#print axioms Texts2_any
end Go.Proofs.YtlomcmichbnkaaaGreatDoor
