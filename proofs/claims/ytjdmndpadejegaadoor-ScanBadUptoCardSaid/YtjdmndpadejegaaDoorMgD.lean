/-
  Package refs: value, numbered.
-/
import Derived.Test.YtjdmndpadejegaaDoorMgB
import Derived.Test.YtjdmndpadejegaaDoorMgA
import Derived.Deep.MidRow
import Derived.Maps.RangeWalk
import Derived.Maps.OwnOps
namespace Go.Proofs.YtjdmndpadejegaaDoor
open Go.RowKit

def valD (x : Nat) : Int :=
  if 48 ≤ x ∧ x ≤ 57 then (x : Int) - 48 else if 97 ≤ x ∧ x ≤ 102 then (x : Int) - 97 + 10 else if 65 ≤ x ∧ x ≤ 70 then (x : Int) - 65 + 10 else 99
theorem valD_bd (x : Nat) : 0 ≤ valD x ∧ valD x ≤ 99 := by unfold valD; repeat' split
                                                           all_goals omega

set_option maxHeartbeats 1000000 in
theorem value_any (x : Nat) (hx : x < 256) (base : Int) (w : World) :
    Calls Tryd.prog 79 #[.int .u8 x, .int .i32 base] w fun e w' => e = .returned (.tuple #[.int .i32 (valD x), .bool (decide (valD x < base))]) ∧ w' = w := by
  by_cases h1 : 48 ≤ x
  · by_cases h2 : x ≤ 57
    · have hv : valD x = (x : Int) - 48 := by unfold valD; rw [if_pos ⟨h1, h2⟩]
      go_enter Tryd.func79, Tryd.ntmps79
      rw [hv]
      clear hv
      go_wp2
      go_ret2
      exact ⟨rfl, rfl⟩
    · by_cases h3 : 97 ≤ x
      · by_cases h4 : x ≤ 102
        · have hv : valD x = (x : Int) - 97 + 10 := by unfold valD; rw [if_neg (by omega), if_pos ⟨h3, h4⟩]
          go_enter Tryd.func79, Tryd.ntmps79
          rw [hv]
          clear hv
          go_wp2
          go_ret2
          exact ⟨rfl, rfl⟩
        · have hv : valD x = 99 := by unfold valD; rw [if_neg (by omega), if_neg (by omega), if_neg (by omega)]
          go_enter Tryd.func79, Tryd.ntmps79
          rw [hv]
          clear hv
          go_wp2
          go_ret2
          exact ⟨rfl, rfl⟩
      · by_cases h5 : 65 ≤ x
        · by_cases h6 : x ≤ 70
          · have hv : valD x = (x : Int) - 65 + 10 := by unfold valD; rw [if_neg (by omega), if_neg (by omega), if_pos ⟨h5, h6⟩]
            go_enter Tryd.func79, Tryd.ntmps79
            rw [hv]
            clear hv
            go_wp2
            go_ret2
            exact ⟨rfl, rfl⟩
          · have hv : valD x = 99 := by unfold valD; rw [if_neg (by omega), if_neg (by omega), if_neg (by omega)]
            go_enter Tryd.func79, Tryd.ntmps79
            rw [hv]
            clear hv
            go_wp2
            go_ret2
            exact ⟨rfl, rfl⟩
        · have hv : valD x = 99 := by unfold valD; rw [if_neg (by omega), if_neg (by omega), if_neg (by omega)]
          go_enter Tryd.func79, Tryd.ntmps79
          rw [hv]
          clear hv
          go_wp2
          go_ret2
          exact ⟨rfl, rfl⟩
  · have hv : valD x = 99 := by unfold valD; rw [if_neg (by omega), if_neg (by omega), if_neg (by omega)]
    go_enter Tryd.func79, Tryd.ntmps79
    rw [hv]
    clear hv
    go_wp2
    go_ret2
    exact ⟨rfl, rfl⟩

def numF (base : Int) (at' : Nat) : Nat → Int → List UInt8 → Int × Int × Int
  | _, _, [] => (0, 0, 1)
  | i, r, b :: l =>
    if b.toNat = 59 ∧ at' < i ∧ isR (rng 0) r = true then (r, (i : Int) + 1, 0)
    else if ¬ valD b.toNat < base ∨ 1114111 < r * base + valD b.toNat then (0, i, 2)
    else numF base at' (i + 1) (r * base + valD b.toNat) l

def Ret3 (e : Ending) (t : Int × Int × Int) : Prop := e = .returned (.tuple #[.int .i32 t.1, .int .i64 t.2.1, .int .i64 t.2.2])

set_option maxHeartbeats 2000000 in
theorem numbered_10 (at' : Nat) (a : Option Addr) (n c : Nat) (l : List UInt8) (w : World) (hs : Sl w a n (u8s l)) (hn : n ≤ 1125899906842624) (hat : at' ≤ n) (hR : RangesAt w 0) :
    Calls Tryd.prog 62 #[.slice a n c, .int .i64 at', .int .i32 10] w fun e w' => Ret3 e (numF 10 at' at' 0 (l.drop at')) ∧ Below w.heap.size w w' := by
  have hl : n = l.length := by have := hs.len; rw [u8s_length] at this; exact this
  have HL := Lib.hid hl
  have HS := Lib.hid hs
  have HR := Lib.hid hR
  clear hl hs hR
  go_enter Tryd.func62, Tryd.ntmps62
  go_wp2_with fail
  go_loopw [9, 10, 11, 12] (fun rx ix _ _ wr => ∃ (i : Nat) (r : Int), rx = .int .i32 r ∧ ix = .int .i64 i ∧ at' ≤ i ∧ i ≤ n ∧ 0 ≤ r ∧ r ≤ 1114111 ∧ Below w.heap.size w wr ∧ Hid (numF 10 at' i r (l.drop i) = numF 10 at' at' 0 (l.drop at'))) (fun _ ix _ _ _ => n - (intOf ix).toNat)
  case atStart => exact ⟨at', 0, rfl, rfl, Nat.le_refl _, hat, by omega, by omega, Below.refl _ _, rfl⟩
  case round =>
    obtain ⟨i, r, rfl, rfl, hi, hin, hr0, hr1, hbw, hf⟩ := hrel
    by_cases hlt : i < n
    · have hil : i < l.length := by rw [← HL.out]; exact hlt
      obtain ⟨b, o, rfl, hb, e0⟩ := (HS.out.below hbw).cell i (by rw [u8s_length]; exact hil)
      have hd := hf.out
      rw [List.drop_eq_getElem_cons hil] at hd
      simp only [u8s, List.getElem_map] at e0
      simp only [numF] at hd
      generalize l[i] = x at *
      have hx : x.toNat < 256 := x.toNat_lt
      have hv := valD_bd x.toNat
      have hva := fun W => value_any x.toNat hx 10 W
      have HVA := Lib.hid hva
      have HBW := Lib.hid hbw
      obtain ⟨ia, hia⟩ : ∃ ia, isR (rng 0) r = ia := ⟨_, rfl⟩
      rw [hia] at hd
      have HD := Lib.hid hd
      have hisc := Lib.hid (Is_any 0 (by decide) r wr (HR.out.below hbw))
      rw [hia] at hisc
      clear hva hd hbw hia hf
      generalize valD x.toNat = d at *
      generalize x.toNat = xn at *
      by_cases hha : xn = 59 ∧ at' < i ∧ ia = true
      · obtain ⟨rfl, hai, rfl⟩ := hha
        go_wp2_with (go_at_call 74; refine hisc.out.mono ?_; rintro e w1 ⟨rfl, hb1⟩)
        refine bodyPost_ret (results_tmp3 rfl _ _ _) rfl ?_
        exact ⟨by rw [← HD.out]; simp [hai, Ret3], HBW.out.trans (hb1.mono HBW.out.size)⟩
      · have HD2 : Hid ((if ¬ d < 10 ∨ 1114111 < r * 10 + d then ((0 : Int), (i : Int), (2 : Int)) else numF 10 at' (i + 1) (r * 10 + d) (l.drop (i + 1))) = numF 10 at' at' 0 (l.drop at')) := by
          have := HD.out
          rw [if_neg hha] at this
          exact this
        clear HD
        by_cases hdb : d < 10
        · have hdd : decide (d < 10) = true := by simp [hdb]
          by_cases hgt : 1114111 < r * 10 + d
          · by_cases h59 : xn = 59
            · subst h59
              by_cases hai : at' < i
              · have hia : ia = false := by cases ia; rfl; exact absurd ⟨rfl, hai, rfl⟩ hha
                subst hia
                go_wp2_with (first | (go_at_call 74; refine hisc.out.mono ?_; rintro e w1 ⟨rfl, hb1⟩; have e1 := (hb1.cell (p := ⟨b, o + i, none⟩) hb).trans e0) | (go_at_call 79; refine (HVA.out _).mono ?_; rw [hdd]; rintro e w2 ⟨rfl, rfl⟩))
                refine bodyPost_ret (results_tmp3 rfl _ _ _) rfl ?_
                exact ⟨by rw [← HD2.out, if_pos (.inr hgt)]; rfl, HBW.out.trans (hb1.mono HBW.out.size)⟩
              · go_wp2_with (go_at_call 79; refine (HVA.out _).mono ?_; rw [hdd]; rintro e w2 ⟨rfl, rfl⟩)
                refine bodyPost_ret (results_tmp3 rfl _ _ _) rfl ?_
                exact ⟨by rw [← HD2.out, if_pos (.inr hgt)]; rfl, HBW.out⟩
            · have hxb : ((xn : Int) == 59) = false := by simp; omega
              go_wp2_with (go_at_call 79; refine (HVA.out _).mono ?_; rw [hdd]; rintro e w2 ⟨rfl, rfl⟩)
              refine bodyPost_ret (results_tmp3 rfl _ _ _) rfl ?_
              exact ⟨by rw [← HD2.out, if_pos (.inr hgt)]; rfl, HBW.out⟩
          · by_cases h59 : xn = 59
            · subst h59
              by_cases hai : at' < i
              · have hia : ia = false := by cases ia; rfl; exact absurd ⟨rfl, hai, rfl⟩ hha
                subst hia
                go_wp2_with (first | (go_at_call 74; refine hisc.out.mono ?_; rintro e w1 ⟨rfl, hb1⟩; have e1 := (hb1.cell (p := ⟨b, o + i, none⟩) hb).trans e0) | (go_at_call 79; refine (HVA.out _).mono ?_; rw [hdd]; rintro e w2 ⟨rfl, rfl⟩))
                go_roundw
                case rel => exact ⟨i + 1, r * 10 + d, rfl, by go_num, by omega, by omega, by omega, by omega, HBW.out.trans (hb1.mono HBW.out.size), by have := HD2.out; rw [if_neg (by omega)] at this; exact this⟩
                case measure => simp [intOf]; omega
              · go_wp2_with (go_at_call 79; refine (HVA.out _).mono ?_; rw [hdd]; rintro e w2 ⟨rfl, rfl⟩)
                go_roundw
                case rel => exact ⟨i + 1, r * 10 + d, rfl, by go_num, by omega, by omega, by omega, by omega, HBW.out, by have := HD2.out; rw [if_neg (by omega)] at this; exact this⟩
                case measure => simp [intOf]; omega
            · have hxb : ((xn : Int) == 59) = false := by simp; omega
              go_wp2_with (go_at_call 79; refine (HVA.out _).mono ?_; rw [hdd]; rintro e w2 ⟨rfl, rfl⟩)
              go_roundw
              case rel => exact ⟨i + 1, r * 10 + d, rfl, by go_num, by omega, by omega, by omega, by omega, HBW.out, by have := HD2.out; rw [if_neg (by omega)] at this; exact this⟩
              case measure => simp [intOf]; omega
        · have hdd : decide (d < 10) = false := by simp; omega
          by_cases h59 : xn = 59
          · subst h59
            by_cases hai : at' < i
            · have hia : ia = false := by cases ia; rfl; exact absurd ⟨rfl, hai, rfl⟩ hha
              subst hia
              go_wp2_with (first | (go_at_call 74; refine hisc.out.mono ?_; rintro e w1 ⟨rfl, hb1⟩; have e1 := (hb1.cell (p := ⟨b, o + i, none⟩) hb).trans e0) | (go_at_call 79; refine (HVA.out _).mono ?_; rw [hdd]; rintro e w2 ⟨rfl, rfl⟩))
              refine bodyPost_ret (results_tmp3 rfl _ _ _) rfl ?_
              exact ⟨by rw [← HD2.out, if_pos (.inl hdb)]; rfl, HBW.out.trans (hb1.mono HBW.out.size)⟩
            · go_wp2_with (go_at_call 79; refine (HVA.out _).mono ?_; rw [hdd]; rintro e w2 ⟨rfl, rfl⟩)
              refine bodyPost_ret (results_tmp3 rfl _ _ _) rfl ?_
              exact ⟨by rw [← HD2.out, if_pos (.inl hdb)]; rfl, HBW.out⟩
          · have hxb : ((xn : Int) == 59) = false := by simp; omega
            go_wp2_with (go_at_call 79; refine (HVA.out _).mono ?_; rw [hdd]; rintro e w2 ⟨rfl, rfl⟩)
            refine bodyPost_ret (results_tmp3 rfl _ _ _) rfl ?_
            exact ⟨by rw [← HD2.out, if_pos (.inl hdb)]; rfl, HBW.out⟩
    · have hd := hf.out
      rw [List.drop_of_length_le (by rw [← HL.out]; omega)] at hd
      have HD := Lib.hid hd
      clear hd hf
      go_wp2
      refine bodyPost_ret (results_tmp3 rfl _ _ _) rfl ?_
      exact ⟨by rw [← HD.out]; rfl, hbw⟩

set_option maxHeartbeats 2000000 in
theorem numbered_16 (at' : Nat) (a : Option Addr) (n c : Nat) (l : List UInt8) (w : World) (hs : Sl w a n (u8s l)) (hn : n ≤ 1125899906842624) (hat : at' ≤ n) (hR : RangesAt w 0) :
    Calls Tryd.prog 62 #[.slice a n c, .int .i64 at', .int .i32 16] w fun e w' => Ret3 e (numF 16 at' at' 0 (l.drop at')) ∧ Below w.heap.size w w' := by
  have hl : n = l.length := by have := hs.len; rw [u8s_length] at this; exact this
  have HL := Lib.hid hl
  have HS := Lib.hid hs
  have HR := Lib.hid hR
  clear hl hs hR
  go_enter Tryd.func62, Tryd.ntmps62
  go_wp2_with fail
  go_loopw [9, 10, 11, 12] (fun rx ix _ _ wr => ∃ (i : Nat) (r : Int), rx = .int .i32 r ∧ ix = .int .i64 i ∧ at' ≤ i ∧ i ≤ n ∧ 0 ≤ r ∧ r ≤ 1114111 ∧ Below w.heap.size w wr ∧ Hid (numF 16 at' i r (l.drop i) = numF 16 at' at' 0 (l.drop at'))) (fun _ ix _ _ _ => n - (intOf ix).toNat)
  case atStart => exact ⟨at', 0, rfl, rfl, Nat.le_refl _, hat, by omega, by omega, Below.refl _ _, rfl⟩
  case round =>
    obtain ⟨i, r, rfl, rfl, hi, hin, hr0, hr1, hbw, hf⟩ := hrel
    by_cases hlt : i < n
    · have hil : i < l.length := by rw [← HL.out]; exact hlt
      obtain ⟨b, o, rfl, hb, e0⟩ := (HS.out.below hbw).cell i (by rw [u8s_length]; exact hil)
      have hd := hf.out
      rw [List.drop_eq_getElem_cons hil] at hd
      simp only [u8s, List.getElem_map] at e0
      simp only [numF] at hd
      generalize l[i] = x at *
      have hx : x.toNat < 256 := x.toNat_lt
      have hv := valD_bd x.toNat
      have hva := fun W => value_any x.toNat hx 16 W
      have HVA := Lib.hid hva
      have HBW := Lib.hid hbw
      obtain ⟨ia, hia⟩ : ∃ ia, isR (rng 0) r = ia := ⟨_, rfl⟩
      rw [hia] at hd
      have HD := Lib.hid hd
      have hisc := Lib.hid (Is_any 0 (by decide) r wr (HR.out.below hbw))
      rw [hia] at hisc
      clear hva hd hbw hia hf
      generalize valD x.toNat = d at *
      generalize x.toNat = xn at *
      by_cases hha : xn = 59 ∧ at' < i ∧ ia = true
      · obtain ⟨rfl, hai, rfl⟩ := hha
        go_wp2_with (go_at_call 74; refine hisc.out.mono ?_; rintro e w1 ⟨rfl, hb1⟩)
        refine bodyPost_ret (results_tmp3 rfl _ _ _) rfl ?_
        exact ⟨by rw [← HD.out]; simp [hai, Ret3], HBW.out.trans (hb1.mono HBW.out.size)⟩
      · have HD2 : Hid ((if ¬ d < 16 ∨ 1114111 < r * 16 + d then ((0 : Int), (i : Int), (2 : Int)) else numF 16 at' (i + 1) (r * 16 + d) (l.drop (i + 1))) = numF 16 at' at' 0 (l.drop at')) := by
          have := HD.out
          rw [if_neg hha] at this
          exact this
        clear HD
        by_cases hdb : d < 16
        · have hdd : decide (d < 16) = true := by simp [hdb]
          by_cases hgt : 1114111 < r * 16 + d
          · by_cases h59 : xn = 59
            · subst h59
              by_cases hai : at' < i
              · have hia : ia = false := by cases ia; rfl; exact absurd ⟨rfl, hai, rfl⟩ hha
                subst hia
                go_wp2_with (first | (go_at_call 74; refine hisc.out.mono ?_; rintro e w1 ⟨rfl, hb1⟩; have e1 := (hb1.cell (p := ⟨b, o + i, none⟩) hb).trans e0) | (go_at_call 79; refine (HVA.out _).mono ?_; rw [hdd]; rintro e w2 ⟨rfl, rfl⟩))
                refine bodyPost_ret (results_tmp3 rfl _ _ _) rfl ?_
                exact ⟨by rw [← HD2.out, if_pos (.inr hgt)]; rfl, HBW.out.trans (hb1.mono HBW.out.size)⟩
              · go_wp2_with (go_at_call 79; refine (HVA.out _).mono ?_; rw [hdd]; rintro e w2 ⟨rfl, rfl⟩)
                refine bodyPost_ret (results_tmp3 rfl _ _ _) rfl ?_
                exact ⟨by rw [← HD2.out, if_pos (.inr hgt)]; rfl, HBW.out⟩
            · have hxb : ((xn : Int) == 59) = false := by simp; omega
              go_wp2_with (go_at_call 79; refine (HVA.out _).mono ?_; rw [hdd]; rintro e w2 ⟨rfl, rfl⟩)
              refine bodyPost_ret (results_tmp3 rfl _ _ _) rfl ?_
              exact ⟨by rw [← HD2.out, if_pos (.inr hgt)]; rfl, HBW.out⟩
          · by_cases h59 : xn = 59
            · subst h59
              by_cases hai : at' < i
              · have hia : ia = false := by cases ia; rfl; exact absurd ⟨rfl, hai, rfl⟩ hha
                subst hia
                go_wp2_with (first | (go_at_call 74; refine hisc.out.mono ?_; rintro e w1 ⟨rfl, hb1⟩; have e1 := (hb1.cell (p := ⟨b, o + i, none⟩) hb).trans e0) | (go_at_call 79; refine (HVA.out _).mono ?_; rw [hdd]; rintro e w2 ⟨rfl, rfl⟩))
                go_roundw
                case rel => exact ⟨i + 1, r * 16 + d, rfl, by go_num, by omega, by omega, by omega, by omega, HBW.out.trans (hb1.mono HBW.out.size), by have := HD2.out; rw [if_neg (by omega)] at this; exact this⟩
                case measure => simp [intOf]; omega
              · go_wp2_with (go_at_call 79; refine (HVA.out _).mono ?_; rw [hdd]; rintro e w2 ⟨rfl, rfl⟩)
                go_roundw
                case rel => exact ⟨i + 1, r * 16 + d, rfl, by go_num, by omega, by omega, by omega, by omega, HBW.out, by have := HD2.out; rw [if_neg (by omega)] at this; exact this⟩
                case measure => simp [intOf]; omega
            · have hxb : ((xn : Int) == 59) = false := by simp; omega
              go_wp2_with (go_at_call 79; refine (HVA.out _).mono ?_; rw [hdd]; rintro e w2 ⟨rfl, rfl⟩)
              go_roundw
              case rel => exact ⟨i + 1, r * 16 + d, rfl, by go_num, by omega, by omega, by omega, by omega, HBW.out, by have := HD2.out; rw [if_neg (by omega)] at this; exact this⟩
              case measure => simp [intOf]; omega
        · have hdd : decide (d < 16) = false := by simp; omega
          by_cases h59 : xn = 59
          · subst h59
            by_cases hai : at' < i
            · have hia : ia = false := by cases ia; rfl; exact absurd ⟨rfl, hai, rfl⟩ hha
              subst hia
              go_wp2_with (first | (go_at_call 74; refine hisc.out.mono ?_; rintro e w1 ⟨rfl, hb1⟩; have e1 := (hb1.cell (p := ⟨b, o + i, none⟩) hb).trans e0) | (go_at_call 79; refine (HVA.out _).mono ?_; rw [hdd]; rintro e w2 ⟨rfl, rfl⟩))
              refine bodyPost_ret (results_tmp3 rfl _ _ _) rfl ?_
              exact ⟨by rw [← HD2.out, if_pos (.inl hdb)]; rfl, HBW.out.trans (hb1.mono HBW.out.size)⟩
            · go_wp2_with (go_at_call 79; refine (HVA.out _).mono ?_; rw [hdd]; rintro e w2 ⟨rfl, rfl⟩)
              refine bodyPost_ret (results_tmp3 rfl _ _ _) rfl ?_
              exact ⟨by rw [← HD2.out, if_pos (.inl hdb)]; rfl, HBW.out⟩
          · have hxb : ((xn : Int) == 59) = false := by simp; omega
            go_wp2_with (go_at_call 79; refine (HVA.out _).mono ?_; rw [hdd]; rintro e w2 ⟨rfl, rfl⟩)
            refine bodyPost_ret (results_tmp3 rfl _ _ _) rfl ?_
            exact ⟨by rw [← HD2.out, if_pos (.inl hdb)]; rfl, HBW.out⟩
    · have hd := hf.out
      rw [List.drop_of_length_le (by rw [← HL.out]; omega)] at hd
      have HD := Lib.hid hd
      clear hd hf
      go_wp2
      refine bodyPost_ret (results_tmp3 rfl _ _ _) rfl ?_
      exact ⟨by rw [← HD.out]; rfl, hbw⟩

end Go.Proofs.YtjdmndpadejegaaDoor

namespace Go.Proofs.YtjdmndpadejegaaDoor
open Go.RowKit

section
variable {P : Program} {ops : Array Oper} {rest : List Oper} {o : Oper} {a : Act} {w : World} {Q : Exit → Act → World → Prop}

theorem wpList_val (hg : o.guard = none) {v : Value} {w' : World} (h : (execOp a.eval o).run P w = .ok (.value v) w') (k : wpList P ops Q rest (a.put o.dst v) w') :
    wpList P ops Q (o :: rest) a w :=
  wpList_plain hg fun _ hK => by unfold Oper.wp; rw [h]; exact hK _ _ k

theorem wpList_build (hg : o.guard = none) (t : TypeId) (parts : List (Nat × Operand)) (ho : o.op = .build t parts.toArray) {v : Value}
    (h : (Instr.build t (parts.map fun p => (p.1, a.eval p.2)).toArray).run P w = .ok v w) (k : wpList P ops Q rest (a.put o.dst v) w) : wpList P ops Q (o :: rest) a w :=
  wpList_val hg (by unfold execOp; simp only [ho, List.map_toArray, Sem.run_bind, h, Result.andThen_ok]; rfl) k

theorem run_typeInfo' {t : TypeId} {i : TypeInfo} (h : P.info? t = some i) : (typeInfo t).run P w = .ok i w := by
  simp [typeInfo, program, Sem.run, h]

theorem wpList_alloc (hg : o.guard = none) (t : TypeId) (ho : o.op = .alloc t) {i : TypeInfo} (hi : P.info? t = some i) {z : Value} (hz : i.zero = some z)
    (k : wpList P ops Q rest (a.put o.dst (.pointer (some ⟨w.heap.size, 0, none⟩))) (w.alloc (.cells z.cells t))) : wpList P ops Q (o :: rest) a w := by
  refine wpList_val hg (v := .pointer (some ⟨w.heap.size, 0, none⟩)) (w' := w.alloc (.cells z.cells t)) ?_ k
  unfold execOp
  simp only [ho, Instr.alloc, zeroValue, Sem.run_bind, run_typeInfo' hi, Result.andThen_ok, hz]
  rfl

theorem setIfInBounds_pre (A C : List Value) (v u : Value) : (A ++ u :: C).toArray.setIfInBounds A.length v = (A ++ v :: C).toArray := by
  simp [List.setIfInBounds_toArray]
theorem setCells_whole (b : Nat) (t : TypeId) (vs : List Value) : ∀ (w : World) (pre old : List Value), w.heap[b]? = some (.cells (pre ++ old).toArray t (0, 0)) → old.length = vs.length →
    (w.setCells b pre.length vs).heap[b]? = some (.cells (pre ++ vs).toArray t (0, 0)) ∧ (∀ j, j ≠ b → (w.setCells b pre.length vs).heap[j]? = w.heap[j]?) ∧ (w.setCells b pre.length vs).heap.size = w.heap.size ∧ (w.setCells b pre.length vs).os = w.os ∧ (w.setCells b pre.length vs).tape = w.tape ∧ (w.setCells b pre.length vs).output = w.output ∧ (w.setCells b pre.length vs).drawn = w.drawn := by
  induction vs with
  | nil =>
    intro w pre old hb hl
    obtain rfl : old = [] := by simpa using hl
    exact ⟨hb, fun _ _ => rfl, rfl, rfl, rfl, rfl, rfl⟩
  | cons v vs ih =>
    intro w pre old hb hl
    cases old with
    | nil => simp at hl
    | cons u old =>
      have h1 := setCell_heap (i := pre.length) hb v
      have h2 : (pre ++ u :: old).toArray.setIfInBounds pre.length v = ((pre ++ [v]) ++ old).toArray := by
        rw [setIfInBounds_pre pre old v u]; simp
      rw [h2] at h1
      have h3 := ih (w.setCell ⟨b, pre.length, none⟩ v) (pre ++ [v]) old h1 (by simpa using hl)
      rw [List.length_append, List.length_singleton] at h3
      rw [World.setCells]
      obtain ⟨a1, a2, a3, a4, a5, a6, a7⟩ := h3
      refine ⟨by simpa using a1, fun j hj => (a2 j hj).trans (Below.heap_setCell _ _ _ _ hj), a3.trans (by simp [World.setCell]), a4, a5, a6, a7⟩

theorem world_ext {w w' : World} (h1 : w.heap = w'.heap) (h2 : w.tape = w'.tape) (h3 : w.drawn = w'.drawn) (h4 : w.os = w'.os) (h5 : w.output = w'.output) : w = w' := by
  cases w; cases w'; simp_all

theorem setCells_alloc (w : World) (z c : Array Value) (t : TypeId) (h : z.size = c.size) : (w.alloc (.cells z t)).setCells w.heap.size 0 c.toList = w.alloc (.cells c t) := by
  have hb : (w.alloc (.cells z t)).heap[w.heap.size]? = some (.cells ([] ++ z.toList).toArray t (0, 0)) := by
    rw [heap_alloc_new]; simp
  obtain ⟨a1, a2, a3, a4, a5, a6, a7⟩ := setCells_whole w.heap.size t c.toList (w.alloc (.cells z t)) [] z.toList hb (by simpa using h)
  simp only [List.length_nil] at a1 a2 a3 a4 a5 a6 a7
  refine world_ext ?_ a5 a7 a4 a6
  apply Array.ext_getElem?
  intro j
  by_cases hj : j = w.heap.size
  · subst hj
    rw [a1, heap_alloc_new]
    simp
  · rw [a2 j hj]
    by_cases hl : j < w.heap.size
    · rw [Below.heap_alloc _ _ _ hl, Below.heap_alloc _ _ _ hl]
    · rw [Array.getElem?_eq_none (by simp; omega), Array.getElem?_eq_none (by simp; omega)]

theorem wpList_new (o1 o2 o3 : Oper) (g1 : o1.guard = none) (g2 : o2.guard = none) (g3 : o3.guard = none) (t : TypeId) (parts : List (Nat × Operand)) (d1 d2 : Tmp)
    (h1 : o1.op = .build t parts.toArray) (h2 : o2.op = .alloc t) (h3 : o3.op = .store t (.tmp d2) (.tmp d1)) (e1 : o1.dst = some d1) (e2 : o2.dst = some d2) (e3 : o3.dst = none) (hne : d2 ≠ d1)
    (l1 : d1 < a.tmps.size) (l2 : d2 < a.tmps.size)
    {c : Array Value} (hb : (Instr.build t (parts.map fun p => (p.1, a.eval p.2)).toArray).run P w = .ok (.agg c) w)
    {i : TypeInfo} (hi : P.info? t = some i) {z : Array Value} (hz : i.zero = some (.agg z)) (hsz : i.size = c.size) (hzc : z.size = c.size) (h1c : c.all (·.oneCell') = true)
    (k : wpList P ops Q rest ((a.put (some d1) (.agg c)).put (some d2) (.pointer (some ⟨w.heap.size, 0, none⟩))) (w.alloc (.cells c t))) :
    wpList P ops Q (o1 :: o2 :: o3 :: rest) a w := by
  refine wpList_build g1 t parts h1 hb ?_
  refine wpList_alloc g2 t h2 hi hz ?_
  rw [e1, e2]
  have ev2 : ∀ b : Act, d2 < b.tmps.size → ∀ v, (b.put (some d2) v).eval (.tmp d2) = v := fun b hb v => by simp [Act.put, Act.eval, Array.getD, hb]
  refine wpList_store_mid g3 t (.tmp d2) (.tmp d1) h3 w.heap.size 0 c ?_ ?_ ?_ ?_ h1c ?_
  · simp [Act.put, Act.eval, Array.getD, l2]
  · simp [Act.put, Act.eval, Array.getD, l1, hne]
  · intro j hj
    have hc : (w.alloc (.cells z t)).cell? ⟨w.heap.size, 0 + j, none⟩ = z[0 + j]? := cell_heap (heap_alloc_new w _)
    refine ⟨?_, frozen_heap (heap_alloc_new w _)⟩
    rw [show Value.cells (.agg z) = z from rfl, hc, Nat.zero_add, Array.getElem?_eq_getElem (by omega)]
    rfl
  · rw [hi]; simp [hsz]
  · rw [show Value.cells (.agg z) = z from rfl, setCells_alloc w z c t hzc, e3]
    exact k

end
end Go.Proofs.YtjdmndpadejegaaDoor

namespace Go.Proofs.YtjdmndpadejegaaDoor
open Go.RowKit Go.Maps

theorem wpList_insert_own {H : Type} {P : Program} (w : World) {ops : Array Oper} {rest : List Oper} {o : Oper} {a : Act} {Q : Exit → Act → World → Prop}
    (hg : o.guard = none) (m x v : Operand) (t : TypeId) (hop : o.op = Op.insert t m x v)
    (k e : TypeId) (K : Keyed P k) (ht : P.underlying t = some (.map k e)) (R : Value → Option (DataW H × List MemPlace)) (b n : Nat) (D : DataW H)
    (hown : w.ownsMap P k R b n D) (hm : a.eval m = .map (some b)) (hn : n < maxLen) (key val : Value) (kl : Lit) (hx : a.eval x = key) (hv : a.eval v = val) (hkey : keyOf P k key = some kl)
    (d : DataW H) (ps : List MemPlace) (hval : R val = some (d, ps))
    (hK : ∀ w', w'.ownsMap P k R b (n + 1) (D.put kl d) → w.grownBy w' (some b) → wpList P ops Q rest (a.put o.dst undef) w') :
    wpList P ops Q (o :: rest) a w := by
  refine wpList_plain hg fun K' hK' => ?_
  obtain ⟨w', hrun, r1, r2⟩ := hown.update K ht hn hkey hval
  unfold Oper.wp
  simp [execOp, hop, hm, hx, hv, hrun, Result.andThen]
  exact hK' _ _ (hK w' r1 r2)
theorem wpList_makeMap {P : Program} (w : World) {ops : Array Oper} {rest : List Oper} {o : Oper} {a : Act} {Q : Exit → Act → World → Prop}
    (hg : o.guard = none) (t : TypeId) (hop : o.op = Op.makeMap t none) (h : wpList P ops Q rest (a.put o.dst (.map (some w.heap.size))) (w.alloc (.map #[] 0))) : wpList P ops Q (o :: rest) a w :=
  wpList_val hg (by unfold execOp; simp only [hop, Option.map_none, Sem.run_bind, run_makeMap, Result.andThen_ok]; rfl) h
end Go.Proofs.YtjdmndpadejegaaDoor
