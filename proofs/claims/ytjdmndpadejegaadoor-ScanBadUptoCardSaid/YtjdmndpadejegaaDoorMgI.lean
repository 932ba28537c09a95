/-
  unicode/utf8 on slices of bytes: decodeRuneSlow, DecodeRune.
-/
import Derived.Test.YtjdmndpadejegaaDoorMgA
import Derived.Test.YtjdmndpadejegaaDoorMgG
import Derived.Test.YtjdmndpadejegaaDoorProg
import Derived.Shelf.Unicode.DecodeSlow
import Derived.Test.YtjdmndpadejegaaDoorMgC
namespace Go.Proofs.YtjdmndpadejegaaDoor
open Go.RowKit
open Go.Lib hiding intOf

set_option maxHeartbeats 4000000 in
set_option maxRecDepth 1000000 in
theorem decSlow_any (a : Option Addr) (n c : Nat) (l : List UInt8) (w : World) (hs : Sl w a n (u8s l)) (hl : l ≠ []) (hT : Lib.Utf8Tabs 1 2 w) :
    Calls Tryd.prog 80 #[.slice a n c] w fun e w' => e = .returned (.tuple #[.int .i32 (decL l).1, .int .i64 (decL l).2]) ∧ Below w.heap.size w w' := by
  obtain ⟨b, o, rfl, _, hn, hc⟩ := sl_bytes hs hl
  have hpos : 0 < n := by rw [hn]; exact List.length_pos_iff.2 hl
  have hn' := hn
  unfold decL
  rw [← hn] at hc ⊢
  obtain ⟨x0, hx0⟩ : ∃ x0, l.getD 0 0 = x0 := ⟨_, rfl⟩
  obtain ⟨x1, hx1⟩ : ∃ x1, l.getD 1 0 = x1 := ⟨_, rfl⟩
  obtain ⟨x2, hx2⟩ : ∃ x2, l.getD 2 0 = x2 := ⟨_, rfl⟩
  obtain ⟨x3, hx3⟩ : ∃ x3, l.getD 3 0 = x3 := ⟨_, rfl⟩
  have e0 := hc 0 hpos
  have e1 := hc 1
  have e2 := hc 2
  have e3 := hc 3
  rw [Nat.add_zero, hx0] at e0
  rw [hx1] at e1
  rw [hx2] at e2
  rw [hx3] at e3
  rw [hx0, hx1, hx2, hx3]
  clear hc hx0 hx1 hx2 hx3 hn hn' hs hl
  have l0 := x0.toNat_lt; have l1 := x1.toNat_lt; have l2 := x2.toNat_lt; have l3 := x3.toNat_lt
  have hc0 := hT.1 x0.toNat (by omega)
  have hz0 : (0 : Int) < (n : Int) := by omega
  have hz0' : ¬ ((n : Int) < 1) := by omega
  have hres : firstT x0.toNat < 240 → Lib.decodeN n x0.toNat x1.toNat x2.toNat x3.toNat = Lib.slowN n x0.toNat x1.toNat x2.toNat x3.toNat (firstT x0.toNat % 8) (accLo (firstT x0.toNat / 16)) (accHi (firstT x0.toNat / 16)) :=
    fun h => (Lib.slow_eq _ _ _ _ _ (by omega) (by omega) (by omega) (by omega) h).symm
  rcases Lib.firstT_cases x0.toNat with hX | hX | hX | hX | hX | hX | hX | hX | hX
  · rw [Lib.ascii_eq _ _ _ _ _ hX]
    rw [hX] at hc0
    clear hres hT hX
    go_enter Tryd.func80, Tryd.ntmps80
    go_wp2
    rw [Utf8W.mask240, Utf8W.keep_byte ⟨x0.toNat, l0⟩]
    go_ret2
    exact ⟨rfl, Below.refl _ _⟩
  · rw [Lib.bad_eq _ _ _ _ _ (by omega) hX]
    rw [hX] at hc0
    clear hres hT hX
    go_enter Tryd.func80, Tryd.ntmps80
    go_wp2
    rw [Utf8W.mask241, Utf8W.drop_byte ⟨x0.toNat, l0⟩]
    go_ret2
    exact ⟨rfl, Below.refl _ _⟩
  all_goals replace hres := hres (by omega)
  · rw [hX] at hc0 hres
    have ha0 := (hT.2 0 (by omega)).1
    have ha1 := (hT.2 0 (by omega)).2
    simp only [accLo, accHi, Nat.reduceMul, Nat.reduceAdd, Nat.reduceEqDiff, if_true, if_false, Nat.reduceMod, Nat.reduceDiv] at ha0 ha1 hres
    rw [hres]
    clear hres hT hX
    by_cases hn : n < 2
    · have hnz : (n : Int) < 2 := by omega
      clear e1 e2 e3
      have hsl : ∀ lo hi, slowN n x0.toNat x1.toNat x2.toNat x3.toNat 2 lo hi = (65533, 1) := fun lo hi => by unfold slowN; rw [if_pos hn]
      rw [hsl]
      clear hsl
      go_enter Tryd.func80, Tryd.ntmps80
      go_wp2
      go_ret2
      exact ⟨rfl, (Below.refl _ _).alloc (Nat.le_refl _) _⟩
    · have hz1 : (1 : Int) < (n : Int) := by omega
      replace e1 := e1 (by omega)
      clear e2 e3
      go_enter Tryd.func80, Tryd.ntmps80
      go_wp2
      all_goals
        go_ret2
        refine ⟨?_, (Below.refl _ _).alloc (Nat.le_refl _) _⟩
        unfold slowN
        repeat' split
        all_goals first
          | (exfalso; omega)
          | rfl
          | (simp only [Int.natCast_add, Int.natCast_mul, Int.natCast_emod, Int.natCast_ofNat]; done)
          | (simp only [Int.natCast_add, Int.natCast_mul, Int.natCast_emod, Int.natCast_ofNat]; rfl)
  · rw [hX] at hc0 hres
    have ha0 := (hT.2 1 (by omega)).1
    have ha1 := (hT.2 1 (by omega)).2
    simp only [accLo, accHi, Nat.reduceMul, Nat.reduceAdd, Nat.reduceEqDiff, if_true, if_false, Nat.reduceMod, Nat.reduceDiv] at ha0 ha1 hres
    rw [hres]
    clear hres hT hX
    by_cases hn : n < 3
    · have hnz : (n : Int) < 3 := by omega
      clear e1 e2 e3
      have hsl : ∀ lo hi, slowN n x0.toNat x1.toNat x2.toNat x3.toNat 3 lo hi = (65533, 1) := fun lo hi => by unfold slowN; rw [if_pos hn]
      rw [hsl]
      clear hsl
      go_enter Tryd.func80, Tryd.ntmps80
      go_wp2
      go_ret2
      exact ⟨rfl, (Below.refl _ _).alloc (Nat.le_refl _) _⟩
    · have hz1 : (1 : Int) < (n : Int) := by omega
      have hz2 : (2 : Int) < (n : Int) := by omega
      replace e1 := e1 (by omega)
      replace e2 := e2 (by omega)
      clear e3
      go_enter Tryd.func80, Tryd.ntmps80
      go_wp2
      all_goals
        go_ret2
        refine ⟨?_, (Below.refl _ _).alloc (Nat.le_refl _) _⟩
        unfold slowN
        repeat' split
        all_goals first
          | (exfalso; omega)
          | rfl
          | (simp only [Int.natCast_add, Int.natCast_mul, Int.natCast_emod, Int.natCast_ofNat]; done)
          | (simp only [Int.natCast_add, Int.natCast_mul, Int.natCast_emod, Int.natCast_ofNat]; rfl)
  · rw [hX] at hc0 hres
    have ha0 := (hT.2 0 (by omega)).1
    have ha1 := (hT.2 0 (by omega)).2
    simp only [accLo, accHi, Nat.reduceMul, Nat.reduceAdd, Nat.reduceEqDiff, if_true, if_false, Nat.reduceMod, Nat.reduceDiv] at ha0 ha1 hres
    rw [hres]
    clear hres hT hX
    by_cases hn : n < 3
    · have hnz : (n : Int) < 3 := by omega
      clear e1 e2 e3
      have hsl : ∀ lo hi, slowN n x0.toNat x1.toNat x2.toNat x3.toNat 3 lo hi = (65533, 1) := fun lo hi => by unfold slowN; rw [if_pos hn]
      rw [hsl]
      clear hsl
      go_enter Tryd.func80, Tryd.ntmps80
      go_wp2
      go_ret2
      exact ⟨rfl, (Below.refl _ _).alloc (Nat.le_refl _) _⟩
    · have hz1 : (1 : Int) < (n : Int) := by omega
      have hz2 : (2 : Int) < (n : Int) := by omega
      replace e1 := e1 (by omega)
      replace e2 := e2 (by omega)
      clear e3
      go_enter Tryd.func80, Tryd.ntmps80
      go_wp2
      all_goals
        go_ret2
        refine ⟨?_, (Below.refl _ _).alloc (Nat.le_refl _) _⟩
        unfold slowN
        repeat' split
        all_goals first
          | (exfalso; omega)
          | rfl
          | (simp only [Int.natCast_add, Int.natCast_mul, Int.natCast_emod, Int.natCast_ofNat]; done)
          | (simp only [Int.natCast_add, Int.natCast_mul, Int.natCast_emod, Int.natCast_ofNat]; rfl)
  · rw [hX] at hc0 hres
    have ha0 := (hT.2 2 (by omega)).1
    have ha1 := (hT.2 2 (by omega)).2
    simp only [accLo, accHi, Nat.reduceMul, Nat.reduceAdd, Nat.reduceEqDiff, if_true, if_false, Nat.reduceMod, Nat.reduceDiv] at ha0 ha1 hres
    rw [hres]
    clear hres hT hX
    by_cases hn : n < 3
    · have hnz : (n : Int) < 3 := by omega
      clear e1 e2 e3
      have hsl : ∀ lo hi, slowN n x0.toNat x1.toNat x2.toNat x3.toNat 3 lo hi = (65533, 1) := fun lo hi => by unfold slowN; rw [if_pos hn]
      rw [hsl]
      clear hsl
      go_enter Tryd.func80, Tryd.ntmps80
      go_wp2
      go_ret2
      exact ⟨rfl, (Below.refl _ _).alloc (Nat.le_refl _) _⟩
    · have hz1 : (1 : Int) < (n : Int) := by omega
      have hz2 : (2 : Int) < (n : Int) := by omega
      replace e1 := e1 (by omega)
      replace e2 := e2 (by omega)
      clear e3
      go_enter Tryd.func80, Tryd.ntmps80
      go_wp2
      all_goals
        go_ret2
        refine ⟨?_, (Below.refl _ _).alloc (Nat.le_refl _) _⟩
        unfold slowN
        repeat' split
        all_goals first
          | (exfalso; omega)
          | rfl
          | (simp only [Int.natCast_add, Int.natCast_mul, Int.natCast_emod, Int.natCast_ofNat]; done)
          | (simp only [Int.natCast_add, Int.natCast_mul, Int.natCast_emod, Int.natCast_ofNat]; rfl)
  · rw [hX] at hc0 hres
    have ha0 := (hT.2 3 (by omega)).1
    have ha1 := (hT.2 3 (by omega)).2
    simp only [accLo, accHi, Nat.reduceMul, Nat.reduceAdd, Nat.reduceEqDiff, if_true, if_false, Nat.reduceMod, Nat.reduceDiv] at ha0 ha1 hres
    rw [hres]
    clear hres hT hX
    by_cases hn : n < 4
    · have hnz : (n : Int) < 4 := by omega
      clear e1 e2 e3
      have hsl : ∀ lo hi, slowN n x0.toNat x1.toNat x2.toNat x3.toNat 4 lo hi = (65533, 1) := fun lo hi => by unfold slowN; rw [if_pos hn]
      rw [hsl]
      clear hsl
      go_enter Tryd.func80, Tryd.ntmps80
      go_wp2
      go_ret2
      exact ⟨rfl, (Below.refl _ _).alloc (Nat.le_refl _) _⟩
    · have hz1 : (1 : Int) < (n : Int) := by omega
      have hz2 : (2 : Int) < (n : Int) := by omega
      have hz3 : (3 : Int) < (n : Int) := by omega
      replace e1 := e1 (by omega)
      replace e2 := e2 (by omega)
      replace e3 := e3 (by omega)
      go_enter Tryd.func80, Tryd.ntmps80
      go_wp2
      all_goals
        go_ret2
        refine ⟨?_, (Below.refl _ _).alloc (Nat.le_refl _) _⟩
        unfold slowN
        repeat' split
        all_goals first
          | (exfalso; omega)
          | rfl
          | (simp only [Int.natCast_add, Int.natCast_mul, Int.natCast_emod, Int.natCast_ofNat]; done)
          | (simp only [Int.natCast_add, Int.natCast_mul, Int.natCast_emod, Int.natCast_ofNat]; rfl)
  · rw [hX] at hc0 hres
    have ha0 := (hT.2 0 (by omega)).1
    have ha1 := (hT.2 0 (by omega)).2
    simp only [accLo, accHi, Nat.reduceMul, Nat.reduceAdd, Nat.reduceEqDiff, if_true, if_false, Nat.reduceMod, Nat.reduceDiv] at ha0 ha1 hres
    rw [hres]
    clear hres hT hX
    by_cases hn : n < 4
    · have hnz : (n : Int) < 4 := by omega
      clear e1 e2 e3
      have hsl : ∀ lo hi, slowN n x0.toNat x1.toNat x2.toNat x3.toNat 4 lo hi = (65533, 1) := fun lo hi => by unfold slowN; rw [if_pos hn]
      rw [hsl]
      clear hsl
      go_enter Tryd.func80, Tryd.ntmps80
      go_wp2
      go_ret2
      exact ⟨rfl, (Below.refl _ _).alloc (Nat.le_refl _) _⟩
    · have hz1 : (1 : Int) < (n : Int) := by omega
      have hz2 : (2 : Int) < (n : Int) := by omega
      have hz3 : (3 : Int) < (n : Int) := by omega
      replace e1 := e1 (by omega)
      replace e2 := e2 (by omega)
      replace e3 := e3 (by omega)
      go_enter Tryd.func80, Tryd.ntmps80
      go_wp2
      all_goals
        go_ret2
        refine ⟨?_, (Below.refl _ _).alloc (Nat.le_refl _) _⟩
        unfold slowN
        repeat' split
        all_goals first
          | (exfalso; omega)
          | rfl
          | (simp only [Int.natCast_add, Int.natCast_mul, Int.natCast_emod, Int.natCast_ofNat]; done)
          | (simp only [Int.natCast_add, Int.natCast_mul, Int.natCast_emod, Int.natCast_ofNat]; rfl)
  · rw [hX] at hc0 hres
    have ha0 := (hT.2 4 (by omega)).1
    have ha1 := (hT.2 4 (by omega)).2
    simp only [accLo, accHi, Nat.reduceMul, Nat.reduceAdd, Nat.reduceEqDiff, if_true, if_false, Nat.reduceMod, Nat.reduceDiv] at ha0 ha1 hres
    rw [hres]
    clear hres hT hX
    by_cases hn : n < 4
    · have hnz : (n : Int) < 4 := by omega
      clear e1 e2 e3
      have hsl : ∀ lo hi, slowN n x0.toNat x1.toNat x2.toNat x3.toNat 4 lo hi = (65533, 1) := fun lo hi => by unfold slowN; rw [if_pos hn]
      rw [hsl]
      clear hsl
      go_enter Tryd.func80, Tryd.ntmps80
      go_wp2
      go_ret2
      exact ⟨rfl, (Below.refl _ _).alloc (Nat.le_refl _) _⟩
    · have hz1 : (1 : Int) < (n : Int) := by omega
      have hz2 : (2 : Int) < (n : Int) := by omega
      have hz3 : (3 : Int) < (n : Int) := by omega
      replace e1 := e1 (by omega)
      replace e2 := e2 (by omega)
      replace e3 := e3 (by omega)
      go_enter Tryd.func80, Tryd.ntmps80
      go_wp2
      all_goals
        go_ret2
        refine ⟨?_, (Below.refl _ _).alloc (Nat.le_refl _) _⟩
        unfold slowN
        repeat' split
        all_goals first
          | (exfalso; omega)
          | rfl
          | (simp only [Int.natCast_add, Int.natCast_mul, Int.natCast_emod, Int.natCast_ofNat]; done)
          | (simp only [Int.natCast_add, Int.natCast_mul, Int.natCast_emod, Int.natCast_ofNat]; rfl)

set_option maxRecDepth 100000 in
set_option maxHeartbeats 1000000 in
theorem decRune_any (a : Option Addr) (n c : Nat) (l : List UInt8) (w : World) (hs : Sl w a n (u8s l)) (hl : l ≠ []) (hT : Lib.Utf8Tabs 1 2 w) :
    Calls Tryd.prog 67 #[.slice a n c] w fun e w' => e = .returned (.tuple #[.int .i32 (decL l).1, .int .i64 (decL l).2]) ∧ Below w.heap.size w w' := by
  obtain ⟨b, o, rfl, _, hn, hc⟩ := sl_bytes hs hl
  have e0 := hc 0 (List.length_pos_iff.2 hl)
  rw [Nat.add_zero] at e0
  have HS := Lib.hid (decSlow_any _ n c l w hs hl hT)
  have hpos : 0 < n := by rw [hn]; exact List.length_pos_iff.2 hl
  have hz0 : (0 : Int) < (n : Int) := by omega
  have hx0 : ∃ x0, l.getD 0 0 = x0 := ⟨_, rfl⟩
  obtain ⟨x0, hx0⟩ := hx0
  have hasc : x0.toNat < 128 → decL l = (x0.toNat, 1) := by
    intro hx
    have h := dec_enc x0.toNat (.inl (by omega)) (l.drop 1)
    rw [encU_low x0 hx] at h
    have e : [x0] ++ l.drop 1 = l := by
      rcases l with _ | ⟨y, l⟩
      · exact absurd rfl hl
      · simp at hx0; subst hx0; rfl
    rw [e] at h
    rw [h]
    unfold encN
    rw [if_pos hx]; rfl
  rw [hx0] at e0
  clear hs hc hn hl hT hx0
  by_cases hx : x0.toNat < 128
  · rw [hasc hx]
    have hxi : (x0.toNat : Int) < 128 := by omega
    clear HS hasc
    go_enter Tryd.func67, Tryd.ntmps67
    go_wp2_with fail
    go_loop [8] (fun ix => ix = .int .i64 0) (fun _ => 0)
    case atStart => exact rfl
    case round =>
      subst hrel
      go_wp2_with fail
      go_ret2
      exact ⟨rfl, Below.refl _ _⟩
  · have hxi : ¬ (x0.toNat : Int) < 128 := by omega
    have hxg : (128 : Int) ≤ (x0.toNat : Int) := by omega
    clear hasc
    go_enter Tryd.func67, Tryd.ntmps67
    go_wp2_with fail
    go_loopw [8] (fun ix wr => ix = .int .i64 0 ∧ wr = w) (fun (_ : Value) (_ : World) => 0)
    case atStart => exact ⟨rfl, rfl⟩
    case round =>
      obtain ⟨rfl, rfl⟩ := hrel
      go_wp2_with (go_at_call 80; (with_reducible refine HS.out.mono ?_); rintro e w1 ⟨rfl, hb1⟩)
      go_ret2
      exact ⟨rfl, hb1⟩
end Go.Proofs.YtjdmndpadejegaaDoor

namespace Go.Proofs.YtjdmndpadejegaaDoor
open Go.RowKit Go.Lib

set_option maxHeartbeats 4000000 in
set_option maxRecDepth 1000000 in
theorem fullRune_any (a : Option Addr) (n c : Nat) (l : List UInt8) (w : World) (hs : Sl w a n (u8s l)) (hl : l ≠ []) (hT : Lib.Utf8Tabs 1 2 w) :
    Calls Tryd.prog 66 #[.slice a n c] w fun e w' => e = .returned (.bool (fullF l)) ∧ Below w.heap.size w w' := by
  obtain ⟨b, o, rfl, _, hn, hc⟩ := sl_bytes hs hl
  have hpos : 0 < n := by rw [hn]; exact List.length_pos_iff.2 hl
  obtain ⟨R, hF⟩ : ∃ R, fullF l = R := ⟨_, rfl⟩
  rw [hF]
  unfold fullF at hF
  rw [← hn] at hc hF
  obtain ⟨x0, hx0⟩ : ∃ x0, l.getD 0 0 = x0 := ⟨_, rfl⟩
  obtain ⟨x1, hx1⟩ : ∃ x1, l.getD 1 0 = x1 := ⟨_, rfl⟩
  obtain ⟨x2, hx2⟩ : ∃ x2, l.getD 2 0 = x2 := ⟨_, rfl⟩
  have e0 := hc 0 hpos
  have e1 := hc 1
  have e2 := hc 2
  rw [Nat.add_zero, hx0] at e0
  rw [hx1] at e1
  rw [hx2] at e2
  rw [hx0, hx1, hx2, if_neg (by omega)] at hF
  clear hc hx0 hx1 hx2 hn hs hl
  have l0 := x0.toNat_lt; have l1 := x1.toNat_lt; have l2 := x2.toNat_lt
  have hc0 := hT.1 x0.toNat (by omega)
  have hz : ((n : Int) == 0) = false := by simp; omega
  generalize x0.toNat = y0 at *
  generalize x1.toNat = y1 at *
  generalize x2.toNat = y2 at *
  rcases Lib.firstT_cases y0 with hX | hX | hX | hX | hX | hX | hX | hX | hX
  all_goals rw [hX] at hc0 hF
  · have hR : R = true := by rw [← hF, if_pos (by omega)]
    subst hR
    clear hT hX hF e1 e2
    have hge : (0 : Int) ≤ (n : Int) := by omega
    go_enter Tryd.func66, Tryd.ntmps66
    go_wp2_with fail
    go_ret
    exact ⟨rfl, Below.refl _ _⟩
  · have hR : R = true := by rw [← hF, if_pos (by omega)]
    subst hR
    clear hT hX hF e1 e2
    have hge : (1 : Int) ≤ (n : Int) := by omega
    go_enter Tryd.func66, Tryd.ntmps66
    go_wp2_with fail
    go_ret
    exact ⟨rfl, Below.refl _ _⟩
  · have ha0 := (hT.2 0 (by omega)).1
    have ha1 := (hT.2 0 (by omega)).2
    simp only [accLo, accHi, Nat.reduceMul, Nat.reduceAdd, Nat.reduceEqDiff, if_true, if_false, Nat.reduceMod, Nat.reduceDiv] at ha0 ha1 hF
    clear hT hX
    by_cases hn : 2 ≤ n
    · have hR : R = true := by rw [← hF, if_pos hn]
      subst hR
      clear hF e1 e2 ha0 ha1
      have hge : (2 : Int) ≤ (n : Int) := by omega
      go_enter Tryd.func66, Tryd.ntmps66
      go_wp2_with fail
      go_ret
      exact ⟨rfl, Below.refl _ _⟩
    have hn3 : n = 1 := by omega
    rcases hn3 with rfl
    · clear hn hz hpos e1 e2
      have hR : R = false := by rw [← hF]; first | (simp; done) | (simp; omega)
      have H2 : Hid (R = false) := hR
      subst hR
      clear H2 hF
      go_enter Tryd.func66, Tryd.ntmps66
      go_wp2_with fail
      go_quiet (fail)
      go_wp2_with fail
      go_ret
      exact ⟨rfl, Below.drewN ((Below.refl _ _).alloc (Nat.le_refl _) _) _⟩
  · have ha0 := (hT.2 1 (by omega)).1
    have ha1 := (hT.2 1 (by omega)).2
    simp only [accLo, accHi, Nat.reduceMul, Nat.reduceAdd, Nat.reduceEqDiff, if_true, if_false, Nat.reduceMod, Nat.reduceDiv] at ha0 ha1 hF
    clear hT hX
    by_cases hn : 3 ≤ n
    · have hR : R = true := by rw [← hF, if_pos hn]
      subst hR
      clear hF e1 e2 ha0 ha1
      have hge : (3 : Int) ≤ (n : Int) := by omega
      go_enter Tryd.func66, Tryd.ntmps66
      go_wp2_with fail
      go_ret
      exact ⟨rfl, Below.refl _ _⟩
    have hn3 : n = 1 ∨ n = 2 := by omega
    rcases hn3 with rfl | rfl
    · clear hn hz hpos e1 e2
      have hR : R = false := by rw [← hF]; first | (simp; done) | (simp; omega)
      have H2 : Hid (R = false) := hR
      subst hR
      clear H2 hF
      go_enter Tryd.func66, Tryd.ntmps66
      go_wp2_with fail
      go_quiet (fail)
      go_wp2_with fail
      go_ret
      exact ⟨rfl, Below.drewN ((Below.refl _ _).alloc (Nat.le_refl _) _) _⟩
    · clear hn hz hpos e2
      replace e1 := e1 (by omega)
      by_cases h1 : y1 < 160
      · have d1 : decide ((y1 : Int) < 160) = true := by simp; omega
        have hR : R = true := by rw [← hF]; first | (simp; done) | (simp; omega)
        have H2 : Hid (R = true) := hR
        subst hR
        clear H2 hF
        go_enter Tryd.func66, Tryd.ntmps66
        go_wp2_with fail
        go_quiet (fail)
        go_wp2_with fail
        go_ret
        exact ⟨rfl, Below.drewN ((Below.refl _ _).alloc (Nat.le_refl _) _) _⟩
      have d1 : decide ((y1 : Int) < 160) = false := by simp; omega
      by_cases h2 : 191 < y1
      · have d2 : decide ((191 : Int) < (y1 : Int)) = true := by simp; omega
        have hR : R = true := by rw [← hF]; first | (simp; done) | (simp; omega)
        have H2 : Hid (R = true) := hR
        subst hR
        clear H2 hF
        go_enter Tryd.func66, Tryd.ntmps66
        go_wp2_with fail
        go_quiet (fail)
        go_wp2_with fail
        go_ret
        exact ⟨rfl, Below.drewN ((Below.refl _ _).alloc (Nat.le_refl _) _) _⟩
      have d2 : decide ((191 : Int) < (y1 : Int)) = false := by simp; omega
      have hR : R = false := by rw [← hF]; first | (simp; done) | (simp; omega)
      have H2 : Hid (R = false) := hR
      subst hR
      clear H2 hF
      go_enter Tryd.func66, Tryd.ntmps66
      go_wp2_with fail
      go_quiet (fail)
      go_wp2_with fail
      go_ret
      exact ⟨rfl, Below.drewN ((Below.refl _ _).alloc (Nat.le_refl _) _) _⟩
  · have ha0 := (hT.2 0 (by omega)).1
    have ha1 := (hT.2 0 (by omega)).2
    simp only [accLo, accHi, Nat.reduceMul, Nat.reduceAdd, Nat.reduceEqDiff, if_true, if_false, Nat.reduceMod, Nat.reduceDiv] at ha0 ha1 hF
    clear hT hX
    by_cases hn : 3 ≤ n
    · have hR : R = true := by rw [← hF, if_pos hn]
      subst hR
      clear hF e1 e2 ha0 ha1
      have hge : (3 : Int) ≤ (n : Int) := by omega
      go_enter Tryd.func66, Tryd.ntmps66
      go_wp2_with fail
      go_ret
      exact ⟨rfl, Below.refl _ _⟩
    have hn3 : n = 1 ∨ n = 2 := by omega
    rcases hn3 with rfl | rfl
    · clear hn hz hpos e1 e2
      have hR : R = false := by rw [← hF]; first | (simp; done) | (simp; omega)
      have H2 : Hid (R = false) := hR
      subst hR
      clear H2 hF
      go_enter Tryd.func66, Tryd.ntmps66
      go_wp2_with fail
      go_quiet (fail)
      go_wp2_with fail
      go_ret
      exact ⟨rfl, Below.drewN ((Below.refl _ _).alloc (Nat.le_refl _) _) _⟩
    · clear hn hz hpos e2
      replace e1 := e1 (by omega)
      by_cases h1 : y1 < 128
      · have d1 : decide ((y1 : Int) < 128) = true := by simp; omega
        have hR : R = true := by rw [← hF]; first | (simp; done) | (simp; omega)
        have H2 : Hid (R = true) := hR
        subst hR
        clear H2 hF
        go_enter Tryd.func66, Tryd.ntmps66
        go_wp2_with fail
        go_quiet (fail)
        go_wp2_with fail
        go_ret
        exact ⟨rfl, Below.drewN ((Below.refl _ _).alloc (Nat.le_refl _) _) _⟩
      have d1 : decide ((y1 : Int) < 128) = false := by simp; omega
      by_cases h2 : 191 < y1
      · have d2 : decide ((191 : Int) < (y1 : Int)) = true := by simp; omega
        have hR : R = true := by rw [← hF]; first | (simp; done) | (simp; omega)
        have H2 : Hid (R = true) := hR
        subst hR
        clear H2 hF
        go_enter Tryd.func66, Tryd.ntmps66
        go_wp2_with fail
        go_quiet (fail)
        go_wp2_with fail
        go_ret
        exact ⟨rfl, Below.drewN ((Below.refl _ _).alloc (Nat.le_refl _) _) _⟩
      have d2 : decide ((191 : Int) < (y1 : Int)) = false := by simp; omega
      have hR : R = false := by rw [← hF]; first | (simp; done) | (simp; omega)
      have H2 : Hid (R = false) := hR
      subst hR
      clear H2 hF
      go_enter Tryd.func66, Tryd.ntmps66
      go_wp2_with fail
      go_quiet (fail)
      go_wp2_with fail
      go_ret
      exact ⟨rfl, Below.drewN ((Below.refl _ _).alloc (Nat.le_refl _) _) _⟩
  · have ha0 := (hT.2 2 (by omega)).1
    have ha1 := (hT.2 2 (by omega)).2
    simp only [accLo, accHi, Nat.reduceMul, Nat.reduceAdd, Nat.reduceEqDiff, if_true, if_false, Nat.reduceMod, Nat.reduceDiv] at ha0 ha1 hF
    clear hT hX
    by_cases hn : 3 ≤ n
    · have hR : R = true := by rw [← hF, if_pos hn]
      subst hR
      clear hF e1 e2 ha0 ha1
      have hge : (3 : Int) ≤ (n : Int) := by omega
      go_enter Tryd.func66, Tryd.ntmps66
      go_wp2_with fail
      go_ret
      exact ⟨rfl, Below.refl _ _⟩
    have hn3 : n = 1 ∨ n = 2 := by omega
    rcases hn3 with rfl | rfl
    · clear hn hz hpos e1 e2
      have hR : R = false := by rw [← hF]; first | (simp; done) | (simp; omega)
      have H2 : Hid (R = false) := hR
      subst hR
      clear H2 hF
      go_enter Tryd.func66, Tryd.ntmps66
      go_wp2_with fail
      go_quiet (fail)
      go_wp2_with fail
      go_ret
      exact ⟨rfl, Below.drewN ((Below.refl _ _).alloc (Nat.le_refl _) _) _⟩
    · clear hn hz hpos e2
      replace e1 := e1 (by omega)
      by_cases h1 : y1 < 128
      · have d1 : decide ((y1 : Int) < 128) = true := by simp; omega
        have hR : R = true := by rw [← hF]; first | (simp; done) | (simp; omega)
        have H2 : Hid (R = true) := hR
        subst hR
        clear H2 hF
        go_enter Tryd.func66, Tryd.ntmps66
        go_wp2_with fail
        go_quiet (fail)
        go_wp2_with fail
        go_ret
        exact ⟨rfl, Below.drewN ((Below.refl _ _).alloc (Nat.le_refl _) _) _⟩
      have d1 : decide ((y1 : Int) < 128) = false := by simp; omega
      by_cases h2 : 159 < y1
      · have d2 : decide ((159 : Int) < (y1 : Int)) = true := by simp; omega
        have hR : R = true := by rw [← hF]; first | (simp; done) | (simp; omega)
        have H2 : Hid (R = true) := hR
        subst hR
        clear H2 hF
        go_enter Tryd.func66, Tryd.ntmps66
        go_wp2_with fail
        go_quiet (fail)
        go_wp2_with fail
        go_ret
        exact ⟨rfl, Below.drewN ((Below.refl _ _).alloc (Nat.le_refl _) _) _⟩
      have d2 : decide ((159 : Int) < (y1 : Int)) = false := by simp; omega
      have hR : R = false := by rw [← hF]; first | (simp; done) | (simp; omega)
      have H2 : Hid (R = false) := hR
      subst hR
      clear H2 hF
      go_enter Tryd.func66, Tryd.ntmps66
      go_wp2_with fail
      go_quiet (fail)
      go_wp2_with fail
      go_ret
      exact ⟨rfl, Below.drewN ((Below.refl _ _).alloc (Nat.le_refl _) _) _⟩
  · have ha0 := (hT.2 3 (by omega)).1
    have ha1 := (hT.2 3 (by omega)).2
    simp only [accLo, accHi, Nat.reduceMul, Nat.reduceAdd, Nat.reduceEqDiff, if_true, if_false, Nat.reduceMod, Nat.reduceDiv] at ha0 ha1 hF
    clear hT hX
    by_cases hn : 4 ≤ n
    · have hR : R = true := by rw [← hF, if_pos hn]
      subst hR
      clear hF e1 e2 ha0 ha1
      have hge : (4 : Int) ≤ (n : Int) := by omega
      go_enter Tryd.func66, Tryd.ntmps66
      go_wp2_with fail
      go_ret
      exact ⟨rfl, Below.refl _ _⟩
    have hn3 : n = 1 ∨ n = 2 ∨ n = 3 := by omega
    rcases hn3 with rfl | rfl | rfl
    · clear hn hz hpos e1 e2
      have hR : R = false := by rw [← hF]; first | (simp; done) | (simp; omega)
      have H2 : Hid (R = false) := hR
      subst hR
      clear H2 hF
      go_enter Tryd.func66, Tryd.ntmps66
      go_wp2_with fail
      go_quiet (fail)
      go_wp2_with fail
      go_ret
      exact ⟨rfl, Below.drewN ((Below.refl _ _).alloc (Nat.le_refl _) _) _⟩
    · clear hn hz hpos e2
      replace e1 := e1 (by omega)
      by_cases h1 : y1 < 144
      · have d1 : decide ((y1 : Int) < 144) = true := by simp; omega
        have hR : R = true := by rw [← hF]; first | (simp; done) | (simp; omega)
        have H2 : Hid (R = true) := hR
        subst hR
        clear H2 hF
        go_enter Tryd.func66, Tryd.ntmps66
        go_wp2_with fail
        go_quiet (fail)
        go_wp2_with fail
        go_ret
        exact ⟨rfl, Below.drewN ((Below.refl _ _).alloc (Nat.le_refl _) _) _⟩
      have d1 : decide ((y1 : Int) < 144) = false := by simp; omega
      by_cases h2 : 191 < y1
      · have d2 : decide ((191 : Int) < (y1 : Int)) = true := by simp; omega
        have hR : R = true := by rw [← hF]; first | (simp; done) | (simp; omega)
        have H2 : Hid (R = true) := hR
        subst hR
        clear H2 hF
        go_enter Tryd.func66, Tryd.ntmps66
        go_wp2_with fail
        go_quiet (fail)
        go_wp2_with fail
        go_ret
        exact ⟨rfl, Below.drewN ((Below.refl _ _).alloc (Nat.le_refl _) _) _⟩
      have d2 : decide ((191 : Int) < (y1 : Int)) = false := by simp; omega
      have hR : R = false := by rw [← hF]; first | (simp; done) | (simp; omega)
      have H2 : Hid (R = false) := hR
      subst hR
      clear H2 hF
      go_enter Tryd.func66, Tryd.ntmps66
      go_wp2_with fail
      go_quiet (fail)
      go_wp2_with fail
      go_ret
      exact ⟨rfl, Below.drewN ((Below.refl _ _).alloc (Nat.le_refl _) _) _⟩
    · clear hn hz hpos
      replace e1 := e1 (by omega)
      replace e2 := e2 (by omega)
      by_cases h1 : y1 < 144
      · have d1 : decide ((y1 : Int) < 144) = true := by simp; omega
        have hR : R = true := by rw [← hF]; first | (simp; done) | (simp; omega)
        have H2 : Hid (R = true) := hR
        subst hR
        clear H2 hF
        go_enter Tryd.func66, Tryd.ntmps66
        go_wp2_with fail
        go_quiet (fail)
        go_wp2_with fail
        go_ret
        exact ⟨rfl, Below.drewN ((Below.refl _ _).alloc (Nat.le_refl _) _) _⟩
      have d1 : decide ((y1 : Int) < 144) = false := by simp; omega
      by_cases h2 : 191 < y1
      · have d2 : decide ((191 : Int) < (y1 : Int)) = true := by simp; omega
        have hR : R = true := by rw [← hF]; first | (simp; done) | (simp; omega)
        have H2 : Hid (R = true) := hR
        subst hR
        clear H2 hF
        go_enter Tryd.func66, Tryd.ntmps66
        go_wp2_with fail
        go_quiet (fail)
        go_wp2_with fail
        go_ret
        exact ⟨rfl, Below.drewN ((Below.refl _ _).alloc (Nat.le_refl _) _) _⟩
      have d2 : decide ((191 : Int) < (y1 : Int)) = false := by simp; omega
      by_cases h3 : y2 < 128
      · have d3 : decide ((y2 : Int) < 128) = true := by simp; omega
        have hR : R = true := by rw [← hF]; first | (simp; done) | (simp; omega)
        have H2 : Hid (R = true) := hR
        subst hR
        clear H2 hF
        go_enter Tryd.func66, Tryd.ntmps66
        go_wp2_with fail
        go_quiet (fail)
        go_wp2_with fail
        go_ret
        exact ⟨rfl, Below.drewN ((Below.refl _ _).alloc (Nat.le_refl _) _) _⟩
      have d3 : decide ((y2 : Int) < 128) = false := by simp; omega
      by_cases h4 : 191 < y2
      · have d4 : decide ((191 : Int) < (y2 : Int)) = true := by simp; omega
        have hR : R = true := by rw [← hF]; first | (simp; done) | (simp; omega)
        have H2 : Hid (R = true) := hR
        subst hR
        clear H2 hF
        go_enter Tryd.func66, Tryd.ntmps66
        go_wp2_with fail
        go_quiet (fail)
        go_wp2_with fail
        go_ret
        exact ⟨rfl, Below.drewN ((Below.refl _ _).alloc (Nat.le_refl _) _) _⟩
      have d4 : decide ((191 : Int) < (y2 : Int)) = false := by simp; omega
      have hR : R = false := by rw [← hF]; first | (simp; done) | (simp; omega)
      have H2 : Hid (R = false) := hR
      subst hR
      clear H2 hF
      go_enter Tryd.func66, Tryd.ntmps66
      go_wp2_with fail
      go_quiet (fail)
      go_wp2_with fail
      go_ret
      exact ⟨rfl, Below.drewN ((Below.refl _ _).alloc (Nat.le_refl _) _) _⟩
  · have ha0 := (hT.2 0 (by omega)).1
    have ha1 := (hT.2 0 (by omega)).2
    simp only [accLo, accHi, Nat.reduceMul, Nat.reduceAdd, Nat.reduceEqDiff, if_true, if_false, Nat.reduceMod, Nat.reduceDiv] at ha0 ha1 hF
    clear hT hX
    by_cases hn : 4 ≤ n
    · have hR : R = true := by rw [← hF, if_pos hn]
      subst hR
      clear hF e1 e2 ha0 ha1
      have hge : (4 : Int) ≤ (n : Int) := by omega
      go_enter Tryd.func66, Tryd.ntmps66
      go_wp2_with fail
      go_ret
      exact ⟨rfl, Below.refl _ _⟩
    have hn3 : n = 1 ∨ n = 2 ∨ n = 3 := by omega
    rcases hn3 with rfl | rfl | rfl
    · clear hn hz hpos e1 e2
      have hR : R = false := by rw [← hF]; first | (simp; done) | (simp; omega)
      have H2 : Hid (R = false) := hR
      subst hR
      clear H2 hF
      go_enter Tryd.func66, Tryd.ntmps66
      go_wp2_with fail
      go_quiet (fail)
      go_wp2_with fail
      go_ret
      exact ⟨rfl, Below.drewN ((Below.refl _ _).alloc (Nat.le_refl _) _) _⟩
    · clear hn hz hpos e2
      replace e1 := e1 (by omega)
      by_cases h1 : y1 < 128
      · have d1 : decide ((y1 : Int) < 128) = true := by simp; omega
        have hR : R = true := by rw [← hF]; first | (simp; done) | (simp; omega)
        have H2 : Hid (R = true) := hR
        subst hR
        clear H2 hF
        go_enter Tryd.func66, Tryd.ntmps66
        go_wp2_with fail
        go_quiet (fail)
        go_wp2_with fail
        go_ret
        exact ⟨rfl, Below.drewN ((Below.refl _ _).alloc (Nat.le_refl _) _) _⟩
      have d1 : decide ((y1 : Int) < 128) = false := by simp; omega
      by_cases h2 : 191 < y1
      · have d2 : decide ((191 : Int) < (y1 : Int)) = true := by simp; omega
        have hR : R = true := by rw [← hF]; first | (simp; done) | (simp; omega)
        have H2 : Hid (R = true) := hR
        subst hR
        clear H2 hF
        go_enter Tryd.func66, Tryd.ntmps66
        go_wp2_with fail
        go_quiet (fail)
        go_wp2_with fail
        go_ret
        exact ⟨rfl, Below.drewN ((Below.refl _ _).alloc (Nat.le_refl _) _) _⟩
      have d2 : decide ((191 : Int) < (y1 : Int)) = false := by simp; omega
      have hR : R = false := by rw [← hF]; first | (simp; done) | (simp; omega)
      have H2 : Hid (R = false) := hR
      subst hR
      clear H2 hF
      go_enter Tryd.func66, Tryd.ntmps66
      go_wp2_with fail
      go_quiet (fail)
      go_wp2_with fail
      go_ret
      exact ⟨rfl, Below.drewN ((Below.refl _ _).alloc (Nat.le_refl _) _) _⟩
    · clear hn hz hpos
      replace e1 := e1 (by omega)
      replace e2 := e2 (by omega)
      by_cases h1 : y1 < 128
      · have d1 : decide ((y1 : Int) < 128) = true := by simp; omega
        have hR : R = true := by rw [← hF]; first | (simp; done) | (simp; omega)
        have H2 : Hid (R = true) := hR
        subst hR
        clear H2 hF
        go_enter Tryd.func66, Tryd.ntmps66
        go_wp2_with fail
        go_quiet (fail)
        go_wp2_with fail
        go_ret
        exact ⟨rfl, Below.drewN ((Below.refl _ _).alloc (Nat.le_refl _) _) _⟩
      have d1 : decide ((y1 : Int) < 128) = false := by simp; omega
      by_cases h2 : 191 < y1
      · have d2 : decide ((191 : Int) < (y1 : Int)) = true := by simp; omega
        have hR : R = true := by rw [← hF]; first | (simp; done) | (simp; omega)
        have H2 : Hid (R = true) := hR
        subst hR
        clear H2 hF
        go_enter Tryd.func66, Tryd.ntmps66
        go_wp2_with fail
        go_quiet (fail)
        go_wp2_with fail
        go_ret
        exact ⟨rfl, Below.drewN ((Below.refl _ _).alloc (Nat.le_refl _) _) _⟩
      have d2 : decide ((191 : Int) < (y1 : Int)) = false := by simp; omega
      by_cases h3 : y2 < 128
      · have d3 : decide ((y2 : Int) < 128) = true := by simp; omega
        have hR : R = true := by rw [← hF]; first | (simp; done) | (simp; omega)
        have H2 : Hid (R = true) := hR
        subst hR
        clear H2 hF
        go_enter Tryd.func66, Tryd.ntmps66
        go_wp2_with fail
        go_quiet (fail)
        go_wp2_with fail
        go_ret
        exact ⟨rfl, Below.drewN ((Below.refl _ _).alloc (Nat.le_refl _) _) _⟩
      have d3 : decide ((y2 : Int) < 128) = false := by simp; omega
      by_cases h4 : 191 < y2
      · have d4 : decide ((191 : Int) < (y2 : Int)) = true := by simp; omega
        have hR : R = true := by rw [← hF]; first | (simp; done) | (simp; omega)
        have H2 : Hid (R = true) := hR
        subst hR
        clear H2 hF
        go_enter Tryd.func66, Tryd.ntmps66
        go_wp2_with fail
        go_quiet (fail)
        go_wp2_with fail
        go_ret
        exact ⟨rfl, Below.drewN ((Below.refl _ _).alloc (Nat.le_refl _) _) _⟩
      have d4 : decide ((191 : Int) < (y2 : Int)) = false := by simp; omega
      have hR : R = false := by rw [← hF]; first | (simp; done) | (simp; omega)
      have H2 : Hid (R = false) := hR
      subst hR
      clear H2 hF
      go_enter Tryd.func66, Tryd.ntmps66
      go_wp2_with fail
      go_quiet (fail)
      go_wp2_with fail
      go_ret
      exact ⟨rfl, Below.drewN ((Below.refl _ _).alloc (Nat.le_refl _) _) _⟩
  · have ha0 := (hT.2 4 (by omega)).1
    have ha1 := (hT.2 4 (by omega)).2
    simp only [accLo, accHi, Nat.reduceMul, Nat.reduceAdd, Nat.reduceEqDiff, if_true, if_false, Nat.reduceMod, Nat.reduceDiv] at ha0 ha1 hF
    clear hT hX
    by_cases hn : 4 ≤ n
    · have hR : R = true := by rw [← hF, if_pos hn]
      subst hR
      clear hF e1 e2 ha0 ha1
      have hge : (4 : Int) ≤ (n : Int) := by omega
      go_enter Tryd.func66, Tryd.ntmps66
      go_wp2_with fail
      go_ret
      exact ⟨rfl, Below.refl _ _⟩
    have hn3 : n = 1 ∨ n = 2 ∨ n = 3 := by omega
    rcases hn3 with rfl | rfl | rfl
    · clear hn hz hpos e1 e2
      have hR : R = false := by rw [← hF]; first | (simp; done) | (simp; omega)
      have H2 : Hid (R = false) := hR
      subst hR
      clear H2 hF
      go_enter Tryd.func66, Tryd.ntmps66
      go_wp2_with fail
      go_quiet (fail)
      go_wp2_with fail
      go_ret
      exact ⟨rfl, Below.drewN ((Below.refl _ _).alloc (Nat.le_refl _) _) _⟩
    · clear hn hz hpos e2
      replace e1 := e1 (by omega)
      by_cases h1 : y1 < 128
      · have d1 : decide ((y1 : Int) < 128) = true := by simp; omega
        have hR : R = true := by rw [← hF]; first | (simp; done) | (simp; omega)
        have H2 : Hid (R = true) := hR
        subst hR
        clear H2 hF
        go_enter Tryd.func66, Tryd.ntmps66
        go_wp2_with fail
        go_quiet (fail)
        go_wp2_with fail
        go_ret
        exact ⟨rfl, Below.drewN ((Below.refl _ _).alloc (Nat.le_refl _) _) _⟩
      have d1 : decide ((y1 : Int) < 128) = false := by simp; omega
      by_cases h2 : 143 < y1
      · have d2 : decide ((143 : Int) < (y1 : Int)) = true := by simp; omega
        have hR : R = true := by rw [← hF]; first | (simp; done) | (simp; omega)
        have H2 : Hid (R = true) := hR
        subst hR
        clear H2 hF
        go_enter Tryd.func66, Tryd.ntmps66
        go_wp2_with fail
        go_quiet (fail)
        go_wp2_with fail
        go_ret
        exact ⟨rfl, Below.drewN ((Below.refl _ _).alloc (Nat.le_refl _) _) _⟩
      have d2 : decide ((143 : Int) < (y1 : Int)) = false := by simp; omega
      have hR : R = false := by rw [← hF]; first | (simp; done) | (simp; omega)
      have H2 : Hid (R = false) := hR
      subst hR
      clear H2 hF
      go_enter Tryd.func66, Tryd.ntmps66
      go_wp2_with fail
      go_quiet (fail)
      go_wp2_with fail
      go_ret
      exact ⟨rfl, Below.drewN ((Below.refl _ _).alloc (Nat.le_refl _) _) _⟩
    · clear hn hz hpos
      replace e1 := e1 (by omega)
      replace e2 := e2 (by omega)
      by_cases h1 : y1 < 128
      · have d1 : decide ((y1 : Int) < 128) = true := by simp; omega
        have hR : R = true := by rw [← hF]; first | (simp; done) | (simp; omega)
        have H2 : Hid (R = true) := hR
        subst hR
        clear H2 hF
        go_enter Tryd.func66, Tryd.ntmps66
        go_wp2_with fail
        go_quiet (fail)
        go_wp2_with fail
        go_ret
        exact ⟨rfl, Below.drewN ((Below.refl _ _).alloc (Nat.le_refl _) _) _⟩
      have d1 : decide ((y1 : Int) < 128) = false := by simp; omega
      by_cases h2 : 143 < y1
      · have d2 : decide ((143 : Int) < (y1 : Int)) = true := by simp; omega
        have hR : R = true := by rw [← hF]; first | (simp; done) | (simp; omega)
        have H2 : Hid (R = true) := hR
        subst hR
        clear H2 hF
        go_enter Tryd.func66, Tryd.ntmps66
        go_wp2_with fail
        go_quiet (fail)
        go_wp2_with fail
        go_ret
        exact ⟨rfl, Below.drewN ((Below.refl _ _).alloc (Nat.le_refl _) _) _⟩
      have d2 : decide ((143 : Int) < (y1 : Int)) = false := by simp; omega
      by_cases h3 : y2 < 128
      · have d3 : decide ((y2 : Int) < 128) = true := by simp; omega
        have hR : R = true := by rw [← hF]; first | (simp; done) | (simp; omega)
        have H2 : Hid (R = true) := hR
        subst hR
        clear H2 hF
        go_enter Tryd.func66, Tryd.ntmps66
        go_wp2_with fail
        go_quiet (fail)
        go_wp2_with fail
        go_ret
        exact ⟨rfl, Below.drewN ((Below.refl _ _).alloc (Nat.le_refl _) _) _⟩
      have d3 : decide ((y2 : Int) < 128) = false := by simp; omega
      by_cases h4 : 191 < y2
      · have d4 : decide ((191 : Int) < (y2 : Int)) = true := by simp; omega
        have hR : R = true := by rw [← hF]; first | (simp; done) | (simp; omega)
        have H2 : Hid (R = true) := hR
        subst hR
        clear H2 hF
        go_enter Tryd.func66, Tryd.ntmps66
        go_wp2_with fail
        go_quiet (fail)
        go_wp2_with fail
        go_ret
        exact ⟨rfl, Below.drewN ((Below.refl _ _).alloc (Nat.le_refl _) _) _⟩
      have d4 : decide ((191 : Int) < (y2 : Int)) = false := by simp; omega
      have hR : R = false := by rw [← hF]; first | (simp; done) | (simp; omega)
      have H2 : Hid (R = false) := hR
      subst hR
      clear H2 hF
      go_enter Tryd.func66, Tryd.ntmps66
      go_wp2_with fail
      go_quiet (fail)
      go_wp2_with fail
      go_ret
      exact ⟨rfl, Below.drewN ((Below.refl _ _).alloc (Nat.le_refl _) _) _⟩

theorem nextHave_any (a : Option Addr) (n c : Nat) (l : List UInt8) (r : Nat) (w : World) (hs : Sl w a n (u8s l)) (hnc : n ≤ c) (hl : l ≠ []) (hT : Lib.Utf8Tabs 1 2 w) (hf : fullF l = true) (hd : decL l = (r, l.length)) (hr : ¬ (r = 65533 ∧ l.length = 1)) :
    Calls Tryd.prog 48 #[.slice a n c, .int .i64 0] w fun e w' => e = .returned (.tuple #[.int .i32 r, .int .i64 n, .int .i64 0, .int .i64 0]) ∧ Below w.heap.size w w' := by
  obtain ⟨b, o, rfl, _, hn, _⟩ := sl_bytes hs hl
  have hpos : 0 < n := by rw [hn]; exact List.length_pos_iff.2 hl
  have hz : ((0 : Int) == (n : Int)) = false := by simp; omega
  have HF := Lib.hid (fullRune_any _ n c l w hs hl hT)
  rw [hf] at HF
  have HD := Lib.hid (fun w1 (hb : Below w.heap.size w w1) => decRune_any _ n c l w1 (hs.below hb) hl (Utf8Tabs_below hT hb))
  rw [hd] at HD
  rw [← hn] at HD hr
  clear hs hT hd hf hn hl
  by_cases h3 : r = 65533
  · subst h3
    have h1 : ((n : Int) == 1) = false := by simp; omega
    go_enter Tryd.func48, Tryd.ntmps48
    go_wp2_with (first | (go_at_call 66; (with_reducible refine HF.out.mono ?_); rintro e w1 ⟨rfl, hb1⟩) | (go_at_call 67; (with_reducible refine (HD.out _ hb1).mono ?_); rintro e w2 ⟨rfl, hb2⟩))
    refine bodyPost_ret (results_tmp4 rfl _ _ _) rfl ?_
    exact ⟨rfl, Below.tr hb1 hb2⟩
  · have h1 : ((r : Int) == 65533) = false := by simp; omega
    go_enter Tryd.func48, Tryd.ntmps48
    go_wp2_with (first | (go_at_call 66; (with_reducible refine HF.out.mono ?_); rintro e w1 ⟨rfl, hb1⟩) | (go_at_call 67; (with_reducible refine (HD.out _ hb1).mono ?_); rintro e w2 ⟨rfl, hb2⟩))
    refine bodyPost_ret (results_tmp4 rfl _ _ _) rfl ?_
    exact ⟨rfl, Below.tr hb1 hb2⟩
theorem nextWait_any (a : Option Addr) (n c : Nat) (l : List UInt8) (w : World) (hs : Sl w a n (u8s l)) (hnc : n ≤ c) (hl : l ≠ []) (hT : Lib.Utf8Tabs 1 2 w) (hf : fullF l = false) (hns : n ≤ 1099511627776) :
    Calls Tryd.prog 48 #[.slice a n c, .int .i64 0] w fun e w' => e = .returned (.tuple #[.int .i32 0, .int .i64 n, .int .i64 1, .int .i64 0]) ∧ Below w.heap.size w w' := by
  obtain ⟨b, o, rfl, _, hn, _⟩ := sl_bytes hs hl
  have hpos : 0 < n := by rw [hn]; exact List.length_pos_iff.2 hl
  have hz : ((0 : Int) == (n : Int)) = false := by simp; omega
  have HF := Lib.hid (fullRune_any _ n c l w hs hl hT)
  rw [hf] at HF
  clear hs hT hf hn hl
  go_enter Tryd.func48, Tryd.ntmps48
  go_wp2_with (go_at_call 66; (with_reducible refine HF.out.mono ?_); rintro e w1 ⟨rfl, hb1⟩)
  refine bodyPost_ret (results_tmp4 rfl _ _ _) rfl ?_
  exact ⟨by simp, hb1⟩
end Go.Proofs.YtjdmndpadejegaaDoor
