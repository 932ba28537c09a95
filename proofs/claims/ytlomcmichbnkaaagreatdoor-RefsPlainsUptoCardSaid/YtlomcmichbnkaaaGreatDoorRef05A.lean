/-
  gimletref05: digit, Number.
-/
import Derived.Test.YtlomcmichbnkaaaGreatDoorDigS
import Derived.Test.YtlomcmichbnkaaaGreatDoorReadsP
namespace Go.Proofs.YtlomcmichbnkaaaGreatDoor
open Go.RowKit

/-- a digit of the base; -1 of none -/
def digR (base : Int) (x : Nat) : Int := if valD x < base then valD x else -1

set_option maxHeartbeats 1000000 in
theorem digit_any (x : Nat) (hx : x < 256) (base : Int) (h0 : 0 < base) (h99 : base ≤ 99) (w : World) :
    Calls Tryz.prog 54 #[.int .u8 x, .int .i64 base] w fun e w' => e = .returned (.int .i64 (digR base x)) ∧ w = w' := by
  by_cases h1 : 48 ≤ x
  · by_cases h2 : x ≤ 57
    · by_cases hlt : (x : Int) - 48 < base
      · have hv : digR base x = (x : Int) - 48 := by unfold digR; rw [show valD x = (x : Int) - 48 by unfold valD; rw [if_pos ⟨h1, h2⟩], if_pos hlt]
        go_enter Tryz.func54, Tryz.ntmps54
        rw [hv]
        clear hv
        go_wp2
        go_ret
        exact ⟨rfl, rfl⟩
      · have hv : digR base x = -1 := by unfold digR; rw [show valD x = (x : Int) - 48 by unfold valD; rw [if_pos ⟨h1, h2⟩], if_neg hlt]
        go_enter Tryz.func54, Tryz.ntmps54
        rw [hv]
        clear hv
        go_wp2
        go_ret
        exact ⟨rfl, rfl⟩
    · by_cases h3 : 97 ≤ x
      · by_cases h4 : x ≤ 102
        · by_cases hlt : (x : Int) - 97 + 10 < base
          · have hv : digR base x = (x : Int) - 97 + 10 := by unfold digR; rw [show valD x = (x : Int) - 97 + 10 by unfold valD; rw [if_neg (by omega), if_pos ⟨h3, h4⟩], if_pos hlt]
            go_enter Tryz.func54, Tryz.ntmps54
            rw [hv]
            clear hv
            go_wp2
            go_ret
            exact ⟨rfl, rfl⟩
          · have hv : digR base x = -1 := by unfold digR; rw [show valD x = (x : Int) - 97 + 10 by unfold valD; rw [if_neg (by omega), if_pos ⟨h3, h4⟩], if_neg hlt]
            go_enter Tryz.func54, Tryz.ntmps54
            rw [hv]
            clear hv
            go_wp2
            go_ret
            exact ⟨rfl, rfl⟩
        · have hv : digR base x = -1 := by unfold digR; rw [show valD x = 99 by unfold valD; rw [if_neg (by omega), if_neg (by omega), if_neg (by omega)], if_neg (by omega)]
          go_enter Tryz.func54, Tryz.ntmps54
          rw [hv]
          clear hv
          go_wp2
          go_ret
          exact ⟨rfl, rfl⟩
      · by_cases h5 : 65 ≤ x
        · by_cases h6 : x ≤ 70
          · by_cases hlt : (x : Int) - 65 + 10 < base
            · have hv : digR base x = (x : Int) - 65 + 10 := by unfold digR; rw [show valD x = (x : Int) - 65 + 10 by unfold valD; rw [if_neg (by omega), if_neg (by omega), if_pos ⟨h5, h6⟩], if_pos hlt]
              go_enter Tryz.func54, Tryz.ntmps54
              rw [hv]
              clear hv
              go_wp2
              go_ret
              exact ⟨rfl, rfl⟩
            · have hv : digR base x = -1 := by unfold digR; rw [show valD x = (x : Int) - 65 + 10 by unfold valD; rw [if_neg (by omega), if_neg (by omega), if_pos ⟨h5, h6⟩], if_neg hlt]
              go_enter Tryz.func54, Tryz.ntmps54
              rw [hv]
              clear hv
              go_wp2
              go_ret
              exact ⟨rfl, rfl⟩
          · have hv : digR base x = -1 := by unfold digR; rw [show valD x = 99 by unfold valD; rw [if_neg (by omega), if_neg (by omega), if_neg (by omega)], if_neg (by omega)]
            go_enter Tryz.func54, Tryz.ntmps54
            rw [hv]
            clear hv
            go_wp2
            go_ret
            exact ⟨rfl, rfl⟩
        · have hv : digR base x = -1 := by unfold digR; rw [show valD x = 99 by unfold valD; rw [if_neg (by omega), if_neg (by omega), if_neg (by omega)], if_neg (by omega)]
          go_enter Tryz.func54, Tryz.ntmps54
          rw [hv]
          clear hv
          go_wp2
          go_ret
          exact ⟨rfl, rfl⟩
  · have hv : digR base x = -1 := by unfold digR; rw [show valD x = 99 by unfold valD; rw [if_neg (by omega), if_neg (by omega), if_neg (by omega)], if_neg (by omega)]
    go_enter Tryz.func54, Tryz.ntmps54
    rw [hv]
    clear hv
    go_wp2
    go_ret
    exact ⟨rfl, rfl⟩

/-- of a number: the digits' value, and whether all are digits -/
def RetNum (e : Ending) (o : Option Int) : Prop := e = .returned (.tuple #[.int .i64 (o.getD 0), .bool o.isSome])
theorem str_at (l : List UInt8) (k : Nat) (h : k < l.length) : (digS l).data.toList[k]? = some l[k] := by simp [digS, h]

set_option maxHeartbeats 2000000 in
theorem Number_any (l : List UInt8) (hl : l.length ≤ 1125899906842624) (base : Int) (h0 : 0 < base) (h99 : base ≤ 16) (w : World) :
    Calls Tryz.prog 42 #[.string (digS l), .int .i64 base] w fun e w' => RetNum e (numR base l 0) ∧ w = w' := by
  obtain ⟨n, hn⟩ : ∃ n, n = l.length := ⟨_, rfl⟩
  have hsz : (digS l).size = n := by rw [digS_size, hn]
  have HN := Lib.hid hn
  have hnb : n ≤ 1125899906842624 := by omega
  clear hn hl
  go_enter Tryz.func42, Tryz.ntmps42
  go_wp2_with fail
  go_loop [6, 7] (fun vx ix => ∃ (v : Int) (i : Nat), vx = .int .i64 v ∧ ix = .int .i64 i ∧ i ≤ n ∧ 0 ≤ v ∧ v ≤ 1114112 ∧ Hid (numR base (l.drop i) v = numR base l 0)) (fun _ ix => n - (intOf ix).toNat)
  case atStart => exact ⟨0, 0, rfl, rfl, Nat.zero_le _, by omega, by omega, Lib.hid rfl⟩
  case round =>
    obtain ⟨v, i, rfl, rfl, hi, hv0, hv1, hf⟩ := hrel
    by_cases hlt : i < n
    · have hil : i < l.length := by rw [← HN.out]; exact hlt
      have hd := hf.out
      rw [List.drop_eq_getElem_cons hil] at hd
      simp only [numR] at hd
      have HX := fun W => run_index_str (P := Tryz.prog) 9 Tryz.underlying9 (digS l) i l[i] (str_at l i hil) W
      have hx : l[i].toNat < 256 := l[i].toNat_lt
      have hvd := valD_bd l[i].toNat
      have HDG := Lib.hid (fun W => digit_any l[i].toNat hx base h0 (by omega) W)
      generalize l[i] = x at *
      have HD := Lib.hid hd
      clear hd hf
      by_cases hdb : valD x.toNat < base
      · have hdd : digR base x.toNat = valD x.toNat := by unfold digR; rw [if_pos hdb]
        rw [hdd] at HDG
        clear hdd
        go_wp2_with fail
        (with_reducible refine (HDG.out _).mono ?_)
        rintro e w' ⟨rfl, rfl⟩
        have hm0 : 0 ≤ v * base := Int.mul_nonneg hv0 (by omega)
        have hm1 : v * base ≤ 1114112 * 16 := Int.mul_le_mul hv1 h99 (by omega) (by omega)
        go_wp2_with fail
        go_round
        case rel => exact ⟨min (v * base + valD x.toNat) 1114112, i + 1, rfl, by go_num, by omega, by omega, by omega, Lib.hid (by have := HD.out; rw [if_pos hdb] at this; rw [Int.min_def]; exact this)⟩
        case measure => simp [intOf]; omega
      · have hdd : digR base x.toNat = -1 := by unfold digR; rw [if_neg hdb]
        rw [hdd] at HDG
        clear hdd
        have HE : Hid (numR base l 0 = none) := Lib.hid (by have := HD.out; rw [if_neg hdb] at this; exact this.symm)
        clear HD
        go_wp2_with fail
        (with_reducible refine (HDG.out _).mono ?_)
        rintro e w' ⟨rfl, rfl⟩
        go_wp2_with fail
        go_ret2
        exact ⟨by rw [HE.out]; rfl, rfl⟩
    · have HE : Hid (numR base l 0 = some v) := Lib.hid (by have := hf.out; rw [List.drop_of_length_le (by rw [← HN.out]; omega)] at this; exact this.symm)
      clear hf
      go_wp2_with fail
      go_ret2
      exact ⟨by rw [HE.out]; rfl, rfl⟩
end Go.Proofs.YtlomcmichbnkaaaGreatDoor
