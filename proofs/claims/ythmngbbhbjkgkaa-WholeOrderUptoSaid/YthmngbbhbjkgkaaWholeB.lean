/-
  The law WholeOrder: the walk of the law itself.
-/
import Derived.Test.YthmngbbhbjkgkaaWholeP
namespace Go.Proofs.Ythmngbbhbjkgkaa
open Go.RowKit

theorem const1 : cmpL (runesOf ⟨#[97, 195, 169]⟩) (runesOf ⟨#[97, 122]⟩) = 1 := by decide +kernel
theorem const2 : cmpL (runesOf ⟨#[255]⟩) (runesOf ⟨#[240, 144, 144, 128]⟩) = -1 := by decide +kernel

set_option maxHeartbeats 1000000 in
theorem walk (s t : ByteArray) (w : World) (hs : s.size ≤ 1048576) (ht : t.size ≤ 1048576) :
    Calls Try.prog 5 #[.string s, .string t] w fun e w' => e = .returned (.bool true) ∧ Below w.heap.size w w' := by
  obtain ⟨gs, hgs⟩ : ∃ b, goodAt s 0 = b := ⟨_, rfl⟩
  obtain ⟨gt, hgt⟩ : ∃ b, goodAt t 0 = b := ⟨_, rfl⟩
  have HGS := Lib.hid hgs
  have HGT := Lib.hid hgt
  clear hgs hgt
  have hcv := fun (W : World) (x : ByteArray) (hx : x.size ≤ 70368744177664) => run_runes (P := Try.prog) 9 51 21 Try.underlying9 Try.underlying51 Try.underlying21 W x hx
  have hs46 : s.size ≤ 70368744177664 := by omega
  go_enter Try.func5, Try.ntmps5
  go_wp2_with fail
  refine (Compare_any _ _ _ (by decide) (by decide)).mono ?_
  rw [const1]
  rintro e w1 ⟨rfl, b1⟩
  go_wp2_with fail
  refine (Compare_any _ _ _ (by decide) (by decide)).mono ?_
  rw [const2]
  rintro e w2 ⟨rfl, b2⟩
  go_wp2_with fail
  refine (whole_any s _ hs).mono ?_
  rw [HGS.out]
  rintro e w3 ⟨rfl, b3⟩
  have b123 := Below.tr b1 (Below.tr b2 b3)
  cases gs with
  | false =>
    go_wp2_with fail
    refine (Compare_any s s _ hs hs).mono ?_
    rw [cmpL_refl]
    rintro e w4 ⟨rfl, b4⟩
    go_wp2_with fail
    refine (Compare_any t s _ ht hs).mono ?_
    rw [cmpL_neg (runesOf s) (runesOf t)]
    rintro e w5 ⟨rfl, b5⟩
    go_wp2_with fail
    refine (Compare_any s t _ hs ht).mono ?_
    have hbd := cmpL_bd (runesOf s) (runesOf t)
    generalize cmpL (runesOf s) (runesOf t) = c at hbd ⊢
    rintro e w6 ⟨rfl, b6⟩
    obtain ⟨hc1, hc2⟩ := hbd
    go_wp2_with fail
    go_ret
    exact ⟨ret_bool (by simp), Below.tr b123 (Below.tr b4 (Below.tr b5 b6))⟩
  | true =>
    go_wp2_with fail
    refine (whole_any t _ ht).mono ?_
    rw [HGT.out]
    rintro e w4 ⟨rfl, b4⟩
    have b4' := Below.tr b123 b4
    cases gt with
    | false =>
      go_wp2_with fail
      refine (Compare_any s s _ hs hs).mono ?_
      rw [cmpL_refl]
      rintro e w5 ⟨rfl, b5⟩
      go_wp2_with fail
      refine (Compare_any t s _ ht hs).mono ?_
      rw [cmpL_neg (runesOf s) (runesOf t)]
      rintro e w6 ⟨rfl, b6⟩
      go_wp2_with fail
      refine (Compare_any s t _ hs ht).mono ?_
      have hbd := cmpL_bd (runesOf s) (runesOf t)
      generalize cmpL (runesOf s) (runesOf t) = c at hbd ⊢
      rintro e w7 ⟨rfl, b7⟩
      obtain ⟨hc1, hc2⟩ := hbd
      go_wp2_with fail
      go_ret
      exact ⟨ret_bool (by simp), Below.tr b4' (Below.tr b5 (Below.tr b6 b7))⟩
    | true =>
      have HC := Lib.hid (cmp_less s t HGS.out HGT.out)
      have hlen := runesOf_length s
      go_wp2_with fail
      all_goals
        refine (Compare_any s t _ hs ht).mono ?_
        rw [HC.out]
        (repeat (first | rw [if_pos (by assumption)] | rw [if_neg (by simp only [Bool.not_eq_true]; assumption)]))
        rintro e w5 ⟨rfl, b5⟩
        go_wp2_with fail
        refine (Length_any s _ hs).mono ?_
        rintro e w6 ⟨rfl, b6⟩
        have b6' := Below.tr b4' (Below.tr b5 (Below.tr b6 (runesW_below w6 21 s)))
        go_wp2_with fail
      all_goals
        go_ret
        exact ⟨rfl, b6'⟩
end Go.Proofs.Ythmngbbhbjkgkaa
