/-
  Package refs: value, numbered.
-/
import Derived.Test.YtlomcmichbnkaaaGreatDoorChars
namespace Go.Proofs.YtlomcmichbnkaaaGreatDoor
open Go.RowKit

/-- a digit's value; 99 of what is none -/
def valD (x : Nat) : Int :=
  if 48 ≤ x ∧ x ≤ 57 then (x : Int) - 48 else if 97 ≤ x ∧ x ≤ 102 then (x : Int) - 97 + 10 else if 65 ≤ x ∧ x ≤ 70 then (x : Int) - 65 + 10 else 99
theorem valD_bd (x : Nat) : 0 ≤ valD x ∧ valD x ≤ 99 := by unfold valD; repeat' split
                                                           all_goals omega

set_option maxHeartbeats 1000000 in
theorem value_any (x : Nat) (hx : x < 256) (base : Int) (w : World) :
    Calls Tryz.prog 37 #[.int .u8 x, .int .i32 base] w fun e w' => e = .returned (.tuple #[.int .i32 (valD x), .bool (decide (valD x < base))]) ∧ w' = w := by
  by_cases h1 : 48 ≤ x
  · by_cases h2 : x ≤ 57
    · have hv : valD x = (x : Int) - 48 := by unfold valD; rw [if_pos ⟨h1, h2⟩]
      go_enter Tryz.func37, Tryz.ntmps37
      rw [hv]
      clear hv
      go_wp2
      go_ret2
      exact ⟨rfl, rfl⟩
    · by_cases h3 : 97 ≤ x
      · by_cases h4 : x ≤ 102
        · have hv : valD x = (x : Int) - 97 + 10 := by unfold valD; rw [if_neg (by omega), if_pos ⟨h3, h4⟩]
          go_enter Tryz.func37, Tryz.ntmps37
          rw [hv]
          clear hv
          go_wp2
          go_ret2
          exact ⟨rfl, rfl⟩
        · have hv : valD x = 99 := by unfold valD; rw [if_neg (by omega), if_neg (by omega), if_neg (by omega)]
          go_enter Tryz.func37, Tryz.ntmps37
          rw [hv]
          clear hv
          go_wp2
          go_ret2
          exact ⟨rfl, rfl⟩
      · by_cases h5 : 65 ≤ x
        · by_cases h6 : x ≤ 70
          · have hv : valD x = (x : Int) - 65 + 10 := by unfold valD; rw [if_neg (by omega), if_neg (by omega), if_pos ⟨h5, h6⟩]
            go_enter Tryz.func37, Tryz.ntmps37
            rw [hv]
            clear hv
            go_wp2
            go_ret2
            exact ⟨rfl, rfl⟩
          · have hv : valD x = 99 := by unfold valD; rw [if_neg (by omega), if_neg (by omega), if_neg (by omega)]
            go_enter Tryz.func37, Tryz.ntmps37
            rw [hv]
            clear hv
            go_wp2
            go_ret2
            exact ⟨rfl, rfl⟩
        · have hv : valD x = 99 := by unfold valD; rw [if_neg (by omega), if_neg (by omega), if_neg (by omega)]
          go_enter Tryz.func37, Tryz.ntmps37
          rw [hv]
          clear hv
          go_wp2
          go_ret2
          exact ⟨rfl, rfl⟩
  · have hv : valD x = 99 := by unfold valD; rw [if_neg (by omega), if_neg (by omega), if_neg (by omega)]
    go_enter Tryz.func37, Tryz.ntmps37
    rw [hv]
    clear hv
    go_wp2
    go_ret2
    exact ⟨rfl, rfl⟩

/-- a reference with a number, from its first digit on -/
def numF (base : Int) (at' : Nat) : Nat → Int → List UInt8 → Int × Int × Int
  | _, _, [] => (0, 0, 1)
  | i, r, b :: l =>
    if b.toNat = 59 ∧ at' < i ∧ isR (rng 0) r = true then (r, (i : Int) + 1, 0)
    else if ¬ valD b.toNat < base ∨ 1114111 < r * base + valD b.toNat then (0, i, 2)
    else numF base at' (i + 1) (r * base + valD b.toNat) l

def Ret3 (e : Ending) (t : Int × Int × Int) : Prop := e = .returned (.tuple #[.int .i32 t.1, .int .i64 t.2.1, .int .i64 t.2.2])

set_option maxHeartbeats 2000000 in
theorem numbered_10 (at' : Nat) (a : Option Addr) (n c : Nat) (l : List UInt8) (w : World) (hs : Sl w a n (u8s l)) (hn : n ≤ 1125899906842624) (hat : at' ≤ n) (hR : RangesAt w 2) :
    Calls Tryz.prog 24 #[.slice a n c, .int .i64 at', .int .i32 10] w fun e w' => Ret3 e (numF 10 at' at' 0 (l.drop at')) ∧ Below w.heap.size w w' := by
  have hl : n = l.length := by have := hs.len; rw [u8s_length] at this; exact this
  have HL := Lib.hid hl
  have HS := Lib.hid hs
  have HR := Lib.hid hR
  clear hl hs hR
  go_enter Tryz.func24, Tryz.ntmps24
  go_wp2_with fail
  go_loopw [9, 10, 11, 12] (fun rx ix _ _ wr => ∃ (i : Nat) (r : Int), rx = .int .i32 r ∧ ix = .int .i64 i ∧ at' ≤ i ∧ i ≤ n ∧ 0 ≤ r ∧ r ≤ 1114111 ∧ Below w.heap.size w wr ∧ Hid (numF 10 at' i r (l.drop i) = numF 10 at' at' 0 (l.drop at'))) (fun _ ix _ _ _ => n - (intOf ix).toNat)
  case atStart => exact ⟨at', 0, rfl, rfl, Nat.le_refl _, hat, by omega, by omega, Below.refl _ _, rfl⟩
  case round =>
    obtain ⟨i, r, rfl, rfl, hi, hin, hr0, hr1, hbw, hf⟩ := hrel
    by_cases hlt : i < n
    · have hil : i < l.length := by rw [← HL.out]; exact hlt
      obtain ⟨b, o, rfl, hb, e0⟩ := (HS.out.below hbw).cell i (by rw [u8s_length]; exact hil)
      have hd := hf.out
      rw [List.drop_eq_getElem_cons hil] at hd
      simp only [u8s, List.getElem_map] at e0
      simp only [numF] at hd
      generalize l[i] = x at *
      have hx : x.toNat < 256 := x.toNat_lt
      have hv := valD_bd x.toNat
      have hva := fun W => value_any x.toNat hx 10 W
      have HVA := Lib.hid hva
      have HBW := Lib.hid hbw
      obtain ⟨ia, hia⟩ : ∃ ia, isR (rng 0) r = ia := ⟨_, rfl⟩
      rw [hia] at hd
      have HD := Lib.hid hd
      have hisc := Lib.hid (Is_any 0 (by decide) r wr (HR.out.below hbw))
      rw [hia] at hisc
      clear hva hd hbw hia hf
      generalize valD x.toNat = d at *
      generalize x.toNat = xn at *
      by_cases hha : xn = 59 ∧ at' < i ∧ ia = true
      · obtain ⟨rfl, hai, rfl⟩ := hha
        go_wp2_with (go_at_call 18; refine hisc.out.mono ?_; rintro e w1 ⟨rfl, hb1⟩)
        refine bodyPost_ret (results_tmp3 rfl _ _ _) rfl ?_
        exact ⟨by rw [← HD.out]; simp [hai, Ret3], HBW.out.trans (hb1.mono HBW.out.size)⟩
      · have HD2 : Hid ((if ¬ d < 10 ∨ 1114111 < r * 10 + d then ((0 : Int), (i : Int), (2 : Int)) else numF 10 at' (i + 1) (r * 10 + d) (l.drop (i + 1))) = numF 10 at' at' 0 (l.drop at')) := by
          have := HD.out
          rw [if_neg hha] at this
          exact this
        clear HD
        by_cases hdb : d < 10
        · have hdd : decide (d < 10) = true := by simp [hdb]
          by_cases hgt : 1114111 < r * 10 + d
          · by_cases h59 : xn = 59
            · subst h59
              by_cases hai : at' < i
              · have hia : ia = false := by cases ia; rfl; exact absurd ⟨rfl, hai, rfl⟩ hha
                subst hia
                go_wp2_with (first | (go_at_call 18; refine hisc.out.mono ?_; rintro e w1 ⟨rfl, hb1⟩; have e1 := (hb1.cell (p := ⟨b, o + i, none⟩) hb).trans e0) | (go_at_call 37; refine (HVA.out _).mono ?_; rw [hdd]; rintro e w2 ⟨rfl, rfl⟩))
                refine bodyPost_ret (results_tmp3 rfl _ _ _) rfl ?_
                exact ⟨by rw [← HD2.out, if_pos (.inr hgt)]; rfl, HBW.out.trans (hb1.mono HBW.out.size)⟩
              · go_wp2_with (go_at_call 37; refine (HVA.out _).mono ?_; rw [hdd]; rintro e w2 ⟨rfl, rfl⟩)
                refine bodyPost_ret (results_tmp3 rfl _ _ _) rfl ?_
                exact ⟨by rw [← HD2.out, if_pos (.inr hgt)]; rfl, HBW.out⟩
            · have hxb : ((xn : Int) == 59) = false := by simp; omega
              go_wp2_with (go_at_call 37; refine (HVA.out _).mono ?_; rw [hdd]; rintro e w2 ⟨rfl, rfl⟩)
              refine bodyPost_ret (results_tmp3 rfl _ _ _) rfl ?_
              exact ⟨by rw [← HD2.out, if_pos (.inr hgt)]; rfl, HBW.out⟩
          · by_cases h59 : xn = 59
            · subst h59
              by_cases hai : at' < i
              · have hia : ia = false := by cases ia; rfl; exact absurd ⟨rfl, hai, rfl⟩ hha
                subst hia
                go_wp2_with (first | (go_at_call 18; refine hisc.out.mono ?_; rintro e w1 ⟨rfl, hb1⟩; have e1 := (hb1.cell (p := ⟨b, o + i, none⟩) hb).trans e0) | (go_at_call 37; refine (HVA.out _).mono ?_; rw [hdd]; rintro e w2 ⟨rfl, rfl⟩))
                go_roundw
                case rel => exact ⟨i + 1, r * 10 + d, rfl, by go_num, by omega, by omega, by omega, by omega, HBW.out.trans (hb1.mono HBW.out.size), by have := HD2.out; rw [if_neg (by omega)] at this; exact this⟩
                case measure => simp [intOf]; omega
              · go_wp2_with (go_at_call 37; refine (HVA.out _).mono ?_; rw [hdd]; rintro e w2 ⟨rfl, rfl⟩)
                go_roundw
                case rel => exact ⟨i + 1, r * 10 + d, rfl, by go_num, by omega, by omega, by omega, by omega, HBW.out, by have := HD2.out; rw [if_neg (by omega)] at this; exact this⟩
                case measure => simp [intOf]; omega
            · have hxb : ((xn : Int) == 59) = false := by simp; omega
              go_wp2_with (go_at_call 37; refine (HVA.out _).mono ?_; rw [hdd]; rintro e w2 ⟨rfl, rfl⟩)
              go_roundw
              case rel => exact ⟨i + 1, r * 10 + d, rfl, by go_num, by omega, by omega, by omega, by omega, HBW.out, by have := HD2.out; rw [if_neg (by omega)] at this; exact this⟩
              case measure => simp [intOf]; omega
        · have hdd : decide (d < 10) = false := by simp; omega
          by_cases h59 : xn = 59
          · subst h59
            by_cases hai : at' < i
            · have hia : ia = false := by cases ia; rfl; exact absurd ⟨rfl, hai, rfl⟩ hha
              subst hia
              go_wp2_with (first | (go_at_call 18; refine hisc.out.mono ?_; rintro e w1 ⟨rfl, hb1⟩; have e1 := (hb1.cell (p := ⟨b, o + i, none⟩) hb).trans e0) | (go_at_call 37; refine (HVA.out _).mono ?_; rw [hdd]; rintro e w2 ⟨rfl, rfl⟩))
              refine bodyPost_ret (results_tmp3 rfl _ _ _) rfl ?_
              exact ⟨by rw [← HD2.out, if_pos (.inl hdb)]; rfl, HBW.out.trans (hb1.mono HBW.out.size)⟩
            · go_wp2_with (go_at_call 37; refine (HVA.out _).mono ?_; rw [hdd]; rintro e w2 ⟨rfl, rfl⟩)
              refine bodyPost_ret (results_tmp3 rfl _ _ _) rfl ?_
              exact ⟨by rw [← HD2.out, if_pos (.inl hdb)]; rfl, HBW.out⟩
          · have hxb : ((xn : Int) == 59) = false := by simp; omega
            go_wp2_with (go_at_call 37; refine (HVA.out _).mono ?_; rw [hdd]; rintro e w2 ⟨rfl, rfl⟩)
            refine bodyPost_ret (results_tmp3 rfl _ _ _) rfl ?_
            exact ⟨by rw [← HD2.out, if_pos (.inl hdb)]; rfl, HBW.out⟩
    · have hd := hf.out
      rw [List.drop_of_length_le (by rw [← HL.out]; omega)] at hd
      have HD := Lib.hid hd
      clear hd hf
      go_wp2
      refine bodyPost_ret (results_tmp3 rfl _ _ _) rfl ?_
      exact ⟨by rw [← HD.out]; rfl, hbw⟩

set_option maxHeartbeats 2000000 in
theorem numbered_16 (at' : Nat) (a : Option Addr) (n c : Nat) (l : List UInt8) (w : World) (hs : Sl w a n (u8s l)) (hn : n ≤ 1125899906842624) (hat : at' ≤ n) (hR : RangesAt w 2) :
    Calls Tryz.prog 24 #[.slice a n c, .int .i64 at', .int .i32 16] w fun e w' => Ret3 e (numF 16 at' at' 0 (l.drop at')) ∧ Below w.heap.size w w' := by
  have hl : n = l.length := by have := hs.len; rw [u8s_length] at this; exact this
  have HL := Lib.hid hl
  have HS := Lib.hid hs
  have HR := Lib.hid hR
  clear hl hs hR
  go_enter Tryz.func24, Tryz.ntmps24
  go_wp2_with fail
  go_loopw [9, 10, 11, 12] (fun rx ix _ _ wr => ∃ (i : Nat) (r : Int), rx = .int .i32 r ∧ ix = .int .i64 i ∧ at' ≤ i ∧ i ≤ n ∧ 0 ≤ r ∧ r ≤ 1114111 ∧ Below w.heap.size w wr ∧ Hid (numF 16 at' i r (l.drop i) = numF 16 at' at' 0 (l.drop at'))) (fun _ ix _ _ _ => n - (intOf ix).toNat)
  case atStart => exact ⟨at', 0, rfl, rfl, Nat.le_refl _, hat, by omega, by omega, Below.refl _ _, rfl⟩
  case round =>
    obtain ⟨i, r, rfl, rfl, hi, hin, hr0, hr1, hbw, hf⟩ := hrel
    by_cases hlt : i < n
    · have hil : i < l.length := by rw [← HL.out]; exact hlt
      obtain ⟨b, o, rfl, hb, e0⟩ := (HS.out.below hbw).cell i (by rw [u8s_length]; exact hil)
      have hd := hf.out
      rw [List.drop_eq_getElem_cons hil] at hd
      simp only [u8s, List.getElem_map] at e0
      simp only [numF] at hd
      generalize l[i] = x at *
      have hx : x.toNat < 256 := x.toNat_lt
      have hv := valD_bd x.toNat
      have hva := fun W => value_any x.toNat hx 16 W
      have HVA := Lib.hid hva
      have HBW := Lib.hid hbw
      obtain ⟨ia, hia⟩ : ∃ ia, isR (rng 0) r = ia := ⟨_, rfl⟩
      rw [hia] at hd
      have HD := Lib.hid hd
      have hisc := Lib.hid (Is_any 0 (by decide) r wr (HR.out.below hbw))
      rw [hia] at hisc
      clear hva hd hbw hia hf
      generalize valD x.toNat = d at *
      generalize x.toNat = xn at *
      by_cases hha : xn = 59 ∧ at' < i ∧ ia = true
      · obtain ⟨rfl, hai, rfl⟩ := hha
        go_wp2_with (go_at_call 18; refine hisc.out.mono ?_; rintro e w1 ⟨rfl, hb1⟩)
        refine bodyPost_ret (results_tmp3 rfl _ _ _) rfl ?_
        exact ⟨by rw [← HD.out]; simp [hai, Ret3], HBW.out.trans (hb1.mono HBW.out.size)⟩
      · have HD2 : Hid ((if ¬ d < 16 ∨ 1114111 < r * 16 + d then ((0 : Int), (i : Int), (2 : Int)) else numF 16 at' (i + 1) (r * 16 + d) (l.drop (i + 1))) = numF 16 at' at' 0 (l.drop at')) := by
          have := HD.out
          rw [if_neg hha] at this
          exact this
        clear HD
        by_cases hdb : d < 16
        · have hdd : decide (d < 16) = true := by simp [hdb]
          by_cases hgt : 1114111 < r * 16 + d
          · by_cases h59 : xn = 59
            · subst h59
              by_cases hai : at' < i
              · have hia : ia = false := by cases ia; rfl; exact absurd ⟨rfl, hai, rfl⟩ hha
                subst hia
                go_wp2_with (first | (go_at_call 18; refine hisc.out.mono ?_; rintro e w1 ⟨rfl, hb1⟩; have e1 := (hb1.cell (p := ⟨b, o + i, none⟩) hb).trans e0) | (go_at_call 37; refine (HVA.out _).mono ?_; rw [hdd]; rintro e w2 ⟨rfl, rfl⟩))
                refine bodyPost_ret (results_tmp3 rfl _ _ _) rfl ?_
                exact ⟨by rw [← HD2.out, if_pos (.inr hgt)]; rfl, HBW.out.trans (hb1.mono HBW.out.size)⟩
              · go_wp2_with (go_at_call 37; refine (HVA.out _).mono ?_; rw [hdd]; rintro e w2 ⟨rfl, rfl⟩)
                refine bodyPost_ret (results_tmp3 rfl _ _ _) rfl ?_
                exact ⟨by rw [← HD2.out, if_pos (.inr hgt)]; rfl, HBW.out⟩
            · have hxb : ((xn : Int) == 59) = false := by simp; omega
              go_wp2_with (go_at_call 37; refine (HVA.out _).mono ?_; rw [hdd]; rintro e w2 ⟨rfl, rfl⟩)
              refine bodyPost_ret (results_tmp3 rfl _ _ _) rfl ?_
              exact ⟨by rw [← HD2.out, if_pos (.inr hgt)]; rfl, HBW.out⟩
          · by_cases h59 : xn = 59
            · subst h59
              by_cases hai : at' < i
              · have hia : ia = false := by cases ia; rfl; exact absurd ⟨rfl, hai, rfl⟩ hha
                subst hia
                go_wp2_with (first | (go_at_call 18; refine hisc.out.mono ?_; rintro e w1 ⟨rfl, hb1⟩; have e1 := (hb1.cell (p := ⟨b, o + i, none⟩) hb).trans e0) | (go_at_call 37; refine (HVA.out _).mono ?_; rw [hdd]; rintro e w2 ⟨rfl, rfl⟩))
                go_roundw
                case rel => exact ⟨i + 1, r * 16 + d, rfl, by go_num, by omega, by omega, by omega, by omega, HBW.out.trans (hb1.mono HBW.out.size), by have := HD2.out; rw [if_neg (by omega)] at this; exact this⟩
                case measure => simp [intOf]; omega
              · go_wp2_with (go_at_call 37; refine (HVA.out _).mono ?_; rw [hdd]; rintro e w2 ⟨rfl, rfl⟩)
                go_roundw
                case rel => exact ⟨i + 1, r * 16 + d, rfl, by go_num, by omega, by omega, by omega, by omega, HBW.out, by have := HD2.out; rw [if_neg (by omega)] at this; exact this⟩
                case measure => simp [intOf]; omega
            · have hxb : ((xn : Int) == 59) = false := by simp; omega
              go_wp2_with (go_at_call 37; refine (HVA.out _).mono ?_; rw [hdd]; rintro e w2 ⟨rfl, rfl⟩)
              go_roundw
              case rel => exact ⟨i + 1, r * 16 + d, rfl, by go_num, by omega, by omega, by omega, by omega, HBW.out, by have := HD2.out; rw [if_neg (by omega)] at this; exact this⟩
              case measure => simp [intOf]; omega
        · have hdd : decide (d < 16) = false := by simp; omega
          by_cases h59 : xn = 59
          · subst h59
            by_cases hai : at' < i
            · have hia : ia = false := by cases ia; rfl; exact absurd ⟨rfl, hai, rfl⟩ hha
              subst hia
              go_wp2_with (first | (go_at_call 18; refine hisc.out.mono ?_; rintro e w1 ⟨rfl, hb1⟩; have e1 := (hb1.cell (p := ⟨b, o + i, none⟩) hb).trans e0) | (go_at_call 37; refine (HVA.out _).mono ?_; rw [hdd]; rintro e w2 ⟨rfl, rfl⟩))
              refine bodyPost_ret (results_tmp3 rfl _ _ _) rfl ?_
              exact ⟨by rw [← HD2.out, if_pos (.inl hdb)]; rfl, HBW.out.trans (hb1.mono HBW.out.size)⟩
            · go_wp2_with (go_at_call 37; refine (HVA.out _).mono ?_; rw [hdd]; rintro e w2 ⟨rfl, rfl⟩)
              refine bodyPost_ret (results_tmp3 rfl _ _ _) rfl ?_
              exact ⟨by rw [← HD2.out, if_pos (.inl hdb)]; rfl, HBW.out⟩
          · have hxb : ((xn : Int) == 59) = false := by simp; omega
            go_wp2_with (go_at_call 37; refine (HVA.out _).mono ?_; rw [hdd]; rintro e w2 ⟨rfl, rfl⟩)
            refine bodyPost_ret (results_tmp3 rfl _ _ _) rfl ?_
            exact ⟨by rw [← HD2.out, if_pos (.inl hdb)]; rfl, HBW.out⟩
    · have hd := hf.out
      rw [List.drop_of_length_le (by rw [← HL.out]; omega)] at hd
      have HD := Lib.hid hd
      clear hd hf
      go_wp2
      refine bodyPost_ret (results_tmp3 rfl _ _ _) rfl ?_
      exact ⟨by rw [← HD.out]; rfl, hbw⟩

end Go.Proofs.YtlomcmichbnkaaaGreatDoor
