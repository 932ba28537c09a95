/-
  gimletlaw05.digits: the walk.
-/
import Derived.Test.YthmngbbhbjkgkaaDoorLawCuts
import Derived.Test.YthmngbbhbjkgkaaDoorDigP
import Derived.IntWalk
namespace Go.Proofs.YthmngbbhbjkgkaaDoor
open Go.RowKit

def digS (l : List UInt8) : ByteArray := ⟨l.toArray⟩
theorem digS_add (l m : List UInt8) : digS l ++ digS m = digS (l ++ m) := by
  apply ByteArray.ext
  simp [digS]
def tabS : ByteArray := ⟨#[48, 49, 50, 51, 52, 53, 54, 55, 56, 57, 97, 98, 99, 100, 101, 102, 65, 66, 67, 68, 69, 70]⟩
theorem tab_one : ∀ d, d < 16 → tabS.extract d (d + 1) = digS [chrD d] := by decide +kernel
theorem slice_tab (d : Nat) (h : d < 16) (w : World) : (Instr.slice 9 (.string ⟨#[48, 49, 50, 51, 52, 53, 54, 55, 56, 57, 97, 98, 99, 100, 101, 102, 65, 66, 67, 68, 69, 70]⟩) (some (.int .i64 (d : Int))) (some (.int .i64 ((d : Int) + 1))) none).run Tryd.prog w = .ok (.string (digS [chrD d])) w := by
  rw [run_slice_string w 9 _ .i64 .i64 (d : Int) ((d : Int) + 1) Tryd.underlying9 (by omega) (by omega) (by show _ ≤ (22 : Int); omega), ← tab_one d (by omega)]
  rfl
def emptyS (v : Value) : Nat := match v with | .string s => if s.size = 0 then 1 else 0 | _ => 0
theorem digS_size (l : List UInt8) : (digS l).size = l.length := by simp [digS, ByteArray.size]
theorem run_cat {P : Program} (a b : List UInt8) (ha : a.length ≤ 8388608) (hb : b.length ≤ 8388608) (w : World) : (Op.stringOp .add (digS a) (digS b)).run P w = .ok (.string (digS (a ++ b))) w := by
  rw [run_string_add (P := P) w _ _ (by rw [digS_size]; omega) (by rw [digS_size]; omega), digS_add]
theorem dig_len (base : Nat) (hb : 2 ≤ base) (n : Nat) : ∀ k, n < base ^ (k + 1) → (dig base n).length ≤ k + 1 := by
  induction n using Nat.strongRecOn with
  | _ n ih =>
    intro k h
    rcases Nat.lt_or_ge n base with h1 | h1
    · rw [dig_small base n h1]; simp
    · rw [dig_big base n hb h1]
      cases k with
      | zero => rw [Nat.pow_one] at h; omega
      | succ k =>
        have := ih (n / base) (Nat.div_lt_self (by omega) (by omega)) k (by rw [Nat.div_lt_iff_lt_mul (by omega)]; rw [Nat.pow_succ] at h; exact h)
        simp; omega
theorem dig_ne (base n : Nat) : dig base n ≠ [] := by rw [dig]; split <;> simp
/-- what the digits' loop holds: so much is left, these digits stand -/
def DigAt (base n m : Nat) (l : List UInt8) : Prop := (l = [] ∧ m = n) ∨ (l ≠ [] ∧ (if m = 0 then l else dig base m ++ l) = dig base n)
theorem DigAt.step {base n m : Nat} {l : List UInt8} (hb : 2 ≤ base) (h : DigAt base n m l) (hg : 0 < m ∨ l = []) : DigAt base n (m / base) (chrD (m % base) :: l) := by
  right
  refine ⟨by simp, ?_⟩
  have e : dig base m ++ l = dig base n := by
    rcases h with ⟨rfl, rfl⟩ | ⟨h1, h2⟩
    · simp
    · rcases hg with hg | hg
      · rwa [if_neg (by omega)] at h2
      · exact absurd hg h1
  rw [← e]
  rcases Nat.lt_or_ge m base with h1 | h1
  · rw [dig_small base m h1, if_pos (Nat.div_eq_of_lt h1), Nat.mod_eq_of_lt h1]; rfl
  · have : 0 < m / base := Nat.div_pos h1 (by omega)
    rw [dig_big base m hb h1, if_neg (by omega)]; simp
theorem DigAt.len {base n m : Nat} {l : List UInt8} (h : DigAt base n m l) : l.length ≤ (dig base n).length := by
  rcases h with ⟨rfl, _⟩ | ⟨_, h⟩
  · simp
  · rw [← h]
    split
    · exact Nat.le_refl _
    · simp
theorem DigAt.done {base n : Nat} {l : List UInt8} (h : DigAt base n 0 l) (hl : l ≠ []) : l = dig base n := by
  rcases h with ⟨h, _⟩ | ⟨_, h⟩
  · exact absurd h hl
  · exact h
set_option maxRecDepth 100000 in
set_option maxHeartbeats 2000000 in
theorem digits_any (b : Nat) (hb2 : 2 ≤ b) (hb16 : b ≤ 16) (n k : Nat) (hn : n < 4194304) (hk : k ≤ 31) (w : World) :
    Calls Tryd.prog 13 #[.int .i64 n, .int .i64 (b : Int), .int .i64 k] w fun e w' => e = .returned (.string (digS (List.replicate k 48 ++ dig b n))) ∧ Below w.heap.size w w' := by
  have HDL : Hid ((dig b n).length ≤ 22) := Lib.hid (dig_len b hb2 n 21 (Nat.lt_of_lt_of_le hn (Nat.le_trans (by decide : 4194304 ≤ 2 ^ 22) (Nat.pow_le_pow_left hb2 22))))
  have hb0 : ((b : Int) == 0) = false := by simp; omega
  go_enter Tryd.func13, Tryd.ntmps13
  go_wp2_with fail
  go_loopw [0, 7] (fun nx sx wr => ∃ (m : Nat) (l : List UInt8), nx = .int .i64 m ∧ sx = .string (digS l) ∧ m ≤ n ∧ Below w.heap.size w wr ∧ Hid (DigAt b n m l)) (fun nx sx _ => 2 * (intOf nx).toNat + emptyS sx)
  case atStart => exact ⟨n, [], rfl, rfl, Nat.le_refl _, Below.refl _ _, Lib.hid (.inl ⟨rfl, rfl⟩)⟩
  case round =>
    obtain ⟨m, l, rfl, rfl, hm, hbr, hi⟩ := hrel
    obtain ⟨d, hd⟩ : ∃ d, d = m % b := ⟨_, rfl⟩
    obtain ⟨q, hq⟩ : ∃ q, q = m / b := ⟨_, rfl⟩
    have hdb : d < b := by rw [hd]; exact Nat.mod_lt _ (by omega)
    have e1 : Int.tmod (m : Int) b = (d : Int) := by rw [hd]; rfl
    have e4 : Int.tdiv (m : Int) b = (q : Int) := by rw [hq]; rfl
    have hqm : 2 * q ≤ m := by rw [hq]; have := Nat.div_mul_le_self m b; have := Nat.mul_le_mul_left (m / b) hb2; omega
    have hcat : ∀ w, (Op.stringOp .add (digS [chrD d]) (digS l)).run Tryd.prog w = .ok (.string (digS (chrD d :: l))) w := run_cat [chrD d] l (by simp) (by have := HDL.out; have := hi.out.len; omega)
    have HD := Lib.hid hd
    have HQ := Lib.hid hq
    clear hd hq
    have e2 : IntKind.i64.wrap ((d : Int) + 1) = (d : Int) + 1 := IntWalk.i64_in _ (by omega)
    have hsl := slice_tab d (by omega)
    by_cases h0 : 0 < m
    · go_wp2_with fail
      go_quiet (fail)
      go_wp2_with fail
      go_roundw
      case rel => exact ⟨q, chrD d :: l, rfl, rfl, by omega, Below.drewN hbr _, Lib.hid (by rw [HQ.out, HD.out]; exact hi.out.step hb2 (.inl h0))⟩
      case measure =>
        have h1 : emptyS (.string (digS (chrD d :: l))) = 0 := by unfold emptyS; simp only [digS_size]; rw [if_neg (by simp)]
        rw [h1]
        simp [intOf]; omega
    · have hm0 := Lib.hid (show m = 0 by omega)
      have hd0 : decide (0 < (m : Int)) = false := by simp; omega
      have hm1 : 2 * m = 0 := by omega
      have HM1 := Lib.hid hm1
      clear hm1
      rcases l with _ | ⟨c, l⟩
      · have hemp : (digS []).toList.isEmpty = true := by rw [ByteArray.toList_eq]; rfl
        go_wp2_with fail
        go_quiet (fail)
        go_wp2_with fail
        go_roundw
        case rel => exact ⟨q, [chrD d], rfl, rfl, by omega, Below.drewN hbr _, Lib.hid (by rw [HQ.out, HD.out]; exact hi.out.step hb2 (.inr rfl))⟩
        case measure =>
          have h1 : emptyS (.string (digS [chrD d])) = 0 := rfl
          have h2 : emptyS (.string (digS [])) = 1 := rfl
          rw [h1, h2]
          have := hm0.out
          simp [intOf]; omega
      · have he : c :: l = dig b n := by have := hi.out; rw [hm0.out] at this; exact this.done (by simp)
        have HE := Lib.hid he
        have hne : (digS (c :: l)).toList.isEmpty = false := by
          rw [ByteArray.toList_eq]; rfl
        clear he hcat e1 e4 hd0
        generalize c :: l = s at *
        go_wp2_with fail
        go_loop [7, 28] (fun sx ix => ∃ j : Nat, ix = .int .i64 j ∧ j ≤ k ∧ sx = .string (digS (List.replicate j 48 ++ s))) (fun _ ix => k - (intOf ix).toNat)
        case atStart => exact ⟨0, rfl, Nat.zero_le _, rfl⟩
        case round =>
          obtain ⟨j, rfl, hj, rfl⟩ := hrel
          have hcat : ∀ w, (Op.stringOp .add ⟨#[48]⟩ (digS (List.replicate j 48 ++ s))).run Tryd.prog w = .ok (.string (digS (48 :: (List.replicate j 48 ++ s)))) w := run_cat [48] _ (by simp) (by have := HDL.out; rw [HE.out]; simp; omega)
          by_cases hlt : j < k
          · go_wp2_with fail
            go_round
            case rel => exact ⟨j + 1, by go_num, by omega, rfl⟩
            case measure => simp [intOf]; omega
          · obtain rfl : j = k := by omega
            go_wp2_with fail
            go_ret
            exact ⟨(by rw [HE.out] : Ending.returned (.string (digS (List.replicate j 48 ++ s))) = .returned (.string (digS (List.replicate j 48 ++ dig b n)))), hbr⟩
end Go.Proofs.YthmngbbhbjkgkaaDoor
