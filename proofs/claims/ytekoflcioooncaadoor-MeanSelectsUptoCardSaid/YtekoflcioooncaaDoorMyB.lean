/-
  The law MeanSelects.
-/
import Derived.Test.YtekoflcioooncaaDoorMxZO
import Derived.Test.YtekoflcioooncaaDoorMxZQ
import Derived.Test.YtekoflcioooncaaDoorMyA
namespace Go.Proofs.YtekoflcioooncaaDoor
open Go.RowKit

def frSe (a : Option Addr) (n c : Nat) (v1 : Value) (P3 tb : Nat) (an : Option Addr) (N cn : Nat) (good : Bool) (t : Array Value) : Array Value :=
  #[.slice a n c, v1, slotOf t 2, .pointer (some ⟨P3, 0, none⟩), slotOf t 4, .pointer (some ⟨tb, 0, none⟩), slotOf t 6, .slice an N cn, .bool good, slotOf t 9, slotOf t 10, slotOf t 11, slotOf t 12, slotOf t 13, slotOf t 14, slotOf t 15, slotOf t 16, slotOf t 17, slotOf t 18, slotOf t 19, slotOf t 20, slotOf t 21, slotOf t 22, slotOf t 23, slotOf t 24, slotOf t 25, slotOf t 26, slotOf t 27, slotOf t 28, slotOf t 29, slotOf t 30, slotOf t 31, slotOf t 32, slotOf t 33, slotOf t 34, slotOf t 35, slotOf t 36, slotOf t 37, slotOf t 38, slotOf t 39, slotOf t 40, slotOf t 41, slotOf t 42, slotOf t 43, slotOf t 44, slotOf t 45, slotOf t 46, slotOf t 47, slotOf t 48, slotOf t 49, slotOf t 50, slotOf t 51, slotOf t 52, slotOf t 53, slotOf t 54, slotOf t 55, slotOf t 56, slotOf t 57, slotOf t 58, slotOf t 59, slotOf t 60, slotOf t 61, slotOf t 62, slotOf t 63, slotOf t 64, slotOf t 65, slotOf t 66, slotOf t 67, slotOf t 68, slotOf t 69, slotOf t 70, slotOf t 71, slotOf t 72, slotOf t 73, slotOf t 74, slotOf t 75, slotOf t 76, slotOf t 77, slotOf t 78, slotOf t 79, slotOf t 80, slotOf t 81, slotOf t 82, slotOf t 83, slotOf t 84, slotOf t 85, slotOf t 86, slotOf t 87, slotOf t 88, slotOf t 89, slotOf t 90, slotOf t 91, slotOf t 92, slotOf t 93, slotOf t 94, slotOf t 95, slotOf t 96, slotOf t 97, slotOf t 98, slotOf t 99, slotOf t 100, slotOf t 101, slotOf t 102, slotOf t 103, slotOf t 104, slotOf t 105, slotOf t 106, slotOf t 107, slotOf t 108, slotOf t 109, slotOf t 110, slotOf t 111, slotOf t 112]
theorem dropTop_len (l : List Int) : (dropTop l).length ≤ l.length := by
  unfold dropTop
  split
  · exact Nat.le_refl _
  · split
    · exact Nat.le_succ _
    · exact Nat.le_refl _

set_option maxRecDepth 1000000 in
set_option maxHeartbeats 8000000 in
theorem meanSelects_of {f : Nat} (hf : f ≤ 1048576) (a : Option Addr) (n c : Nat) (evs : List Ev) (pa : Option Addr) (pc : Nat) (ss : List PS) (w : World) (hE : EnvT w) (hev : EvsAt w a n evs) (hw : wtEs evs ≤ 1048576) (hs : SsAt f w pa ss) (hsl : ss.length ≤ 1048576) :
    Calls Tryd.prog 3 #[.slice a n c, .agg #[.slice pa ss.length pc]] w fun e w' => e = .returned (.bool true) ∧ Below w.heap.size w w' := by
  have hn : n ≤ 1048576 := by have := wtEs_length evs; have := hev.1; omega
  obtain ⟨m, hm⟩ : ∃ m, ss.length = m := ⟨_, rfl⟩
  rw [hm] at hsl ⊢
  obtain ⟨W0, hW0⟩ : ∃ W0, W0 = w.alloc (.cells #[.slice pa m pc] 25) := ⟨_, rfl⟩
  have hb0 : Below w.heap.size w W0 := by rw [hW0]; exact (Below.refl w.heap.size w).alloc (Nat.le_refl _) _
  have hsz0 : W0.heap.size = w.heap.size + 1 := by rw [hW0]; simp
  have hk4 : W0.heap[w.heap.size]? = some (.cells #[.slice pa m pc] 25 (0, 0)) := by rw [hW0]; exact heap_alloc_new w _
  have HKS : Hid (∀ W, Below W0.heap.size W0 W → W.cell? ⟨w.heap.size, 0, none⟩ = some (.slice pa m pc)) := Lib.hid fun W hW => by
    rw [cell_heap ((hW.block w.heap.size (by omega)).trans hk4)]; rfl
  have FIN : Hid (∀ W, Below W0.heap.size W0 W → Below w.heap.size w W) := Lib.hid fun W hW => hb0.trans (hW.mono hb0.size)
  have HAW := Lib.hid (awake12_any steps_all W0 (hE.below hb0))
  have HBD : Hid (∀ W, Below W0.heap.size W0 W → Calls Tryd.prog 10 #[.slice a n c] W fun e w' => ((wholeB evs = true ∧ ∃ tb, e = .returned (.tuple #[.pointer (some ⟨tb, 0, none⟩), .int .i64 0]) ∧ TreeAt w' W.heap.size tb evs) ∨ (wholeB evs = false ∧ e = .returned (.tuple #[.pointer none, .int .i64 6]))) ∧ Below W.heap.size W w') := Lib.hid fun W hW =>
    treeBuild_any a n c evs W (hev.below (FIN.out W hW)) hn (evsSm hw) (hE.below (FIN.out W hW)).rng (hE.below (FIN.out W hW)).tab
  have HEV : Hid (∀ W, Below W0.heap.size W0 W → EvsAt W a n evs) := Lib.hid fun W hW => hev.below (FIN.out W hW)
  have HLT : Hid (∀ W, Below W0.heap.size W0 W → Calls Tryd.prog 11 #[.agg #[.slice pa m pc]] W fun e w' => SomeB e ∧ Below W.heap.size W w') := Lib.hid fun W hW => by
    have := light_any pa pc ss W (SsAt.below hs (FIN.out W hW)) (by rw [hm]; exact hsl)
    rw [hm] at this; exact this
  have HCK : Hid (∀ W, Below W0.heap.size W0 W → Calls Tryd.prog 14 #[.agg #[.slice pa m pc]] W fun e w' => e = .returned (.int .i64 (checkN f ss)) ∧ Below W.heap.size W w') := Lib.hid fun W hW => by
    have := check_any hf pa pc ss W (hE.below (FIN.out W hW)) (SsAt.below hs (FIN.out W hW)) (by rw [hm]; exact hsl)
    rw [hm] at this; exact this
  have HENV : Hid (∀ W, Below W0.heap.size W0 W → EnvT W) := Lib.hid fun W hW => hE.below (FIN.out W hW)
  have HSS : Hid (∀ W, Below W0.heap.size W0 W → SsAt f W pa ss) := Lib.hid fun W hW => SsAt.below hs (FIN.out W hW)
  have HWT := Lib.hid hw
  have HN := Lib.hid hn
  have HF := Lib.hid hf
  have HM := Lib.hid hm
  have HSL := Lib.hid hsl
  have HW0E := Lib.hid hW0
  clear hW0 hb0 hsz0 hk4 hE hev hw hs hn hf hm hsl
  go_enter Tryd.func3, Tryd.ntmps3
  go_wp2_with fail
  rw [← HW0E.out]
  (with_reducible refine HAW.out.mono ?_)
  rintro e w1 ⟨rfl, hb1⟩
  have HB1 := Lib.hid hb1
  have HBDX := Lib.hid (HBD.out w1 hb1)
  clear hb1
  go_wp2_with fail
  (with_reducible refine HBDX.out.mono ?_)
  rintro e w2 ⟨he, hb2⟩
  have HB2 := Lib.hid (HB1.out.trans (hb2.mono HB1.out.size))
  clear hb2
  rcases he with ⟨hwh, tb, rfl, htr⟩ | ⟨_, rfl⟩
  rotate_left
  · go_wp2_with fail
    go_ret
    exact ⟨rfl, FIN.out _ HB2.out⟩
  have HTR := Lib.hid htr
  have HWH := Lib.hid hwh
  clear htr hwh
  have HLEN : Hid (∀ W, Below w2.heap.size w2 W → Calls Tryd.prog 12 #[.pointer (some ⟨tb, 0, none⟩)] W fun e w' => e = .returned (.int .i64 ((nodesB evs).length : Nat)) ∧ w' = W) := Lib.hid fun W hW => len_any (treeLast (HTR.out.below hW) HWH.out)
  have HNOD : Hid (∀ W, Below W0.heap.size W0 W → Calls Tryd.prog 13 #[.slice a n c] W fun e w' => ∃ an cn, e = .returned (.slice an (nodesB evs).length cn) ∧ RNodes w' an evs ∧ Below W.heap.size W w') := Lib.hid fun W hW => nodes9_any a n c evs W (HEV.out W hW) HWH.out HN.out (evsSm HWT.out)
  have k2 := HKS.out w2 HB2.out
  have HL2 := Lib.hid (HLT.out w2 HB2.out)
  go_wp2_with fail
  (with_reducible refine HL2.out.mono ?_)
  rintro e w4 ⟨⟨b4, rfl⟩, hb4⟩
  have HB4 := Lib.hid (HB2.out.trans (hb4.mono HB2.out.size))
  have HB24 := Lib.hid hb4
  clear hb4 k2
  cases b4 with
  | false =>
    go_wp2_with fail
    go_ret
    exact ⟨rfl, FIN.out _ HB4.out⟩
  | true =>
    have HLN4 := Lib.hid (HLEN.out w4 HB24.out)
    obtain ⟨N, hN⟩ : ∃ N, (nodesB evs).length = N := ⟨_, rfl⟩
    rw [hN] at HLN4 HNOD
    have HNN := Lib.hid hN
    clear hN
    by_cases h60 : 60 < N
    · have h60' : (60 : Int) < (N : Int) := by omega
      go_wp2_with fail
      (with_reducible refine HLN4.out.mono ?_)
      rintro e w7 ⟨rfl, rfl⟩
      go_wp2_with fail
      go_ret
      exact ⟨rfl, FIN.out _ HB4.out⟩
    have h60' : (N : Int) ≤ 60 := by omega
    have hN60 : N ≤ 60 := by omega
    have HTQ : Hid (∀ W, Below w2.heap.size w2 W → TQ W tb evs) := Lib.hid fun W hW => tq_of (HTR.out.below hW) HWH.out HWT.out (by rw [HNN.out]; omega)
    have HND := Lib.hid (HNOD.out w4 HB4.out)
    clear h60
    go_wp2_with fail
    (with_reducible refine HLN4.out.mono ?_)
    rintro e w7 ⟨rfl, rfl⟩
    go_wp2_with fail
    (with_reducible refine HND.out.mono ?_)
    rintro e w5 ⟨an, cn, rfl, hr5, hb5⟩
    have HB5 := Lib.hid (HB4.out.trans (hb5.mono HB4.out.size))
    have HB25 := Lib.hid (HB24.out.trans (hb5.mono HB24.out.size))
    have HRQ5 : Hid (RQ w5 an evs) := Lib.hid ⟨hr5, HWH.out, evsSm HWT.out, by rw [HNN.out]; omega, (HTQ.out w5 HB25.out).texts⟩
    clear hr5 hb5
    have k5 := HKS.out w5 HB5.out
    have HC6 := Lib.hid (HCK.out w5 HB5.out)
    have HB6 := Lib.hid HB5.out
    have HB26 := Lib.hid HB25.out
    have HRQ6 := Lib.hid HRQ5.out
    obtain ⟨cx, hcx⟩ : ∃ cx, checkN f ss = cx := ⟨_, rfl⟩
    rw [hcx] at HC6
    have HCX := Lib.hid hcx
    have hc06 : cx = 0 ∨ cx = 6 := by rw [← hcx]; unfold checkN; split <;> simp
    clear hcx
    go_wp2_with fail
    (with_reducible refine HC6.out.mono ?_)
    rintro e w8 ⟨rfl, hb8⟩
    have HB8 := Lib.hid (HB6.out.trans (hb8.mono HB6.out.size))
    have HB28 := Lib.hid (HB26.out.trans (hb8.mono HB26.out.size))
    have HRQ8 := Lib.hid (HRQ6.out.below hb8)
    clear hb8 k5
    have HKB : Hid (∀ W, Below w8.heap.size w8 W → Below W0.heap.size W0 W ∧ Below w2.heap.size w2 W ∧ RQ W an evs) := Lib.hid fun W hW => ⟨HB8.out.trans (hW.mono HB8.out.size), HB28.out.trans (hW.mono HB28.out.size), HRQ8.out.below hW⟩
    have HBS : Hid (Below w8.heap.size w8 w8) := Lib.hid (Below.refl _ _)
    have HFRO : Hid (∀ (v : Int) (W : World), Below w8.heap.size w8 W → Calls Tryd.prog 18 #[.pointer (some ⟨tb, 0, none⟩), .int .i64 v, .agg #[.slice pa m pc]] W fun e w' => ∃ A cc, e = .returned (.tuple #[.slice A (fromN (treePT evs) f v ss).length cc, .int .i64 (refusesN N f v ss)]) ∧ IntsAt w' A (fromN (treePT evs) f v ss).length (fromN (treePT evs) f v ss) ∧ Below W.heap.size W w') := Lib.hid fun v W hW => by
      have h := from_any HF.out (steps_all f tb evs) v pa pc ss W (HTQ.out W (HKB.out W hW).2.1) (HENV.out W (HKB.out W hW).1) (HSS.out W (HKB.out W hW).1) (by rw [HM.out]; exact HSL.out)
      rw [HNN.out, HM.out] at h
      exact h.mono fun e w' ⟨A, cc, h1, _, h3, h4⟩ => ⟨A, cc, h1, h3, h4⟩
    have HSEL : Hid (Calls Tryd.prog 15 #[.pointer (some ⟨tb, 0, none⟩), .agg #[.slice pa m pc]] w8 fun e w' => ∃ A cc, e = .returned (.tuple #[.slice A (selectN (treePT evs) f ss).length cc, .int .i64 (refusesN N f (-1) ss)]) ∧ IntsAt w' A (selectN (treePT evs) f ss).length (selectN (treePT evs) f ss) ∧ Below w8.heap.size w8 w') := Lib.hid (by
      have h := select_any HF.out (steps_all f tb evs) pa pc ss w8 (HTQ.out w8 HB28.out) (HENV.out w8 HB8.out) (HSS.out w8 HB8.out) (by rw [HM.out]; exact HSL.out)
      rw [HNN.out, HM.out] at h
      exact h)
    have hNp : 0 < N := by rw [← HNN.out]; exact wholeB_pos HWH.out
    have HFN0 : Hid (∀ v, refusesN N f v ss ≠ 0 → fromN (treePT evs) f v ss = []) := Lib.hid fun v h => by
      unfold fromN
      have e : refusesN (treePT evs).N f v ss = refusesN N f v ss := by show refusesN (nodesB evs).length f v ss = _; rw [HNN.out]
      rw [e, if_neg h]
    have HFN1 : Hid (∀ v, refusesN N f v ss = 0 → fromN (treePT evs) f v ss = fromP (treePT evs) f v ss) := Lib.hid fun v h => by
      unfold fromN
      have e : refusesN (treePT evs).N f v ss = refusesN N f v ss := by show refusesN (nodesB evs).length f v ss = _; rw [HNN.out]
      rw [e, if_pos h]
    have HFPL : Hid (∀ v, (fromP (treePT evs) f v ss).length ≤ 61) := Lib.hid fun v => by
      refine Nat.le_trans (trueTo_len _ _) ?_
      rw [stepsP_len, oneP_len]
      show (nodesB evs).length + 1 ≤ 61
      rw [HNN.out]; omega
    have k8 := HKS.out w8 HB8.out
    rcases hc06 with rfl | rfl
    · have hr : refusesN N f (-1) ss = 0 := by unfold refusesN; rw [if_neg (by omega)]; exact HCX.out
      have hh : selectN (treePT evs) f ss = dropTop (fromP (treePT evs) f (-1) ss) := by unfold selectN; rw [HFN1.out (-1) hr]
      rw [hr, hh] at HSEL
      clear hr hh
      have HRS : Hid (∀ W, Below w8.heap.size w8 W → Calls Tryd.prog 17 #[.slice an N cn, .agg #[.slice pa m pc]] W fun e w' => ∃ A cc, e = .returned (.slice A (dropTop (fromP (treePT evs) f (-1) ss)).length cc) ∧ IntsAt w' A (dropTop (fromP (treePT evs) f (-1) ss)).length (dropTop (fromP (treePT evs) f (-1) ss)) ∧ Below W.heap.size W w') := Lib.hid fun W hW => by
        have h := select12_any (cn := cn) pa pc ss W (HKB.out W hW).2.2 (HSS.out W (HKB.out W hW).1) (by rw [HM.out]; exact HSL.out) HCX.out
        rw [HNN.out, HM.out] at h
        exact h
      have hdl : (dropTop (fromP (treePT evs) f (-1) ss)).length ≤ 61 := Nat.le_trans (dropTop_len _) (HFPL.out (-1))
      have HIS : Hid (∀ (A B : Option Addr) (c1 c2 : Nat) W, IntsAt W A (dropTop (fromP (treePT evs) f (-1) ss)).length (dropTop (fromP (treePT evs) f (-1) ss)) → IntsAt W B (dropTop (fromP (treePT evs) f (-1) ss)).length (dropTop (fromP (treePT evs) f (-1) ss)) → Calls Tryd.prog 16 #[.slice A (dropTop (fromP (treePT evs) f (-1) ss)).length c1, .slice B (dropTop (fromP (treePT evs) f (-1) ss)).length c2] W fun e w' => e = .returned (.bool true) ∧ Below W.heap.size W w') := Lib.hid fun A B c1 c2 W h1 h2 => by
        have h := lawInts_any A B _ _ c1 c2 _ _ W h1 h2 (Nat.le_trans hdl (by decide))
        rw [decide_eq_true rfl] at h
        exact h
      generalize dropTop (fromP (treePT evs) f (-1) ss) = sl at *
      generalize sl.length = sn at *
      clear hdl
      go_wp2_with fail
      (with_reducible refine HSEL.out.mono ?_)
      rintro e w9 ⟨A9, c9, rfl, hi9, hb⟩
      have HB9 := Lib.hid hb
      have HI9 := Lib.hid hi9
      have HRSX := Lib.hid (HRS.out w9 hb)
      clear hb hi9 k8
      have k9 := HKS.out w9 (HKB.out w9 HB9.out).1
      go_wp2_with fail
      (with_reducible refine HRSX.out.mono ?_)
      rintro e w10 ⟨A10, c10, rfl, hi10, hb⟩
      have HB10 := Lib.hid (HB9.out.trans (hb.mono HB9.out.size))
      have HISX := Lib.hid (HIS.out A9 A10 c9 c10 w10 (HI9.out.below hb) hi10)
      clear hb hi10 k9
      go_wp2_with fail
      (with_reducible refine HISX.out.mono ?_)
      rintro e w11 ⟨rfl, hb⟩
      have HB11 := Lib.hid (HB10.out.trans (hb.mono HB10.out.size))
      clear hb
      go_wp2_with fail
      refine wp_loop_ghost (fun k a1 wr => ∃ j : Nat, slotOf a1.tmps 10 = .int .i64 ((j : Int) - 2) ∧ j ≤ N + 3 ∧ k = N + 3 - j ∧ Hid (Below w8.heap.size w8 wr) ∧ a1 = { tmps := frSe a n c (.agg #[.slice pa m pc]) w.heap.size tb an N cn true a1.tmps, defers := [] }) (N + 3) ?atStarttrue ?roundtrue
      case atStarttrue => exact ⟨0, rfl, Nat.zero_le _, rfl, HB11, rfl⟩
      case roundtrue =>
        rintro mk ⟨t, dd⟩ wr ⟨j, h13, hjn, rfl, HJ, ha⟩
        obtain ⟨ha1, ha2⟩ := Act.mk.inj ha
        subst dd
        rw [ha1]
        clear ha ha1
        dsimp only [frSe] at h13 ⊢
        rw [h13]
        clear h13
        have ewj : IntKind.i64.wrap ((j : Int) - 2 + 1) = (j : Int) - 2 + 1 := IntWalk.i64_in _ (by omega)
        by_cases hj : j < N + 3
        rotate_left
        · have hj2 : j = N + 3 := by omega
          subst hj2
          have hj3 : (N : Int) < ((N + 3 : Nat) : Int) - 2 := by omega
          go_wp2_with fail
          go_ret
          exact ⟨rfl, FIN.out _ (HKB.out _ HJ.out).1⟩
        have HEX : Hid ((j : Int) - 2 + 1 = (((j + 1 : Nat) : Int) - 2)) := Lib.hid (by omega)
        obtain ⟨v, hv⟩ : ∃ v, (j : Int) - 2 = v := ⟨_, rfl⟩
        rw [hv] at ewj HEX ⊢
        have v2 : v ≤ (N : Int) := by omega
        have HHX := Lib.hid (HFRO.out v wr HJ.out)
        have kw := HKS.out wr (HKB.out wr HJ.out).1
        by_cases hvv : v < -1 ∨ (N : Int) ≤ v
        · have hr : refusesN N f v ss = 2 := if_pos hvv
          have hh := HFN0.out v (by rw [hr]; decide)
          rw [hr, hh] at HHX
          clear hr hh
          rw [show ([] : List Int).length = 0 from rfl] at HHX
          by_cases hlo : v < -1
          · clear hvv
            go_wp2_with fail
            (with_reducible refine HHX.out.mono ?_)
            rintro e wz ⟨Az, cz, rfl, _, hb⟩
            have HJ2 := Lib.hid (HJ.out.trans (hb.mono HJ.out.size))
            clear hb
            go_wp2_with fail
            exact ⟨N + 3 - (j + 1), by omega, j + 1, congrArg (Value.int .i64) HEX.out, by omega, rfl, HJ2, rfl⟩
          · have hlo2 : -1 ≤ v := by omega
            have heq : decide (v = (N : Int)) = true := decide_eq_true (by omega)
            have heq2 : (v == (N : Int)) = true := by simp; omega
            clear hvv hlo
            go_wp2_with fail
            (with_reducible refine HHX.out.mono ?_)
            rintro e wz ⟨Az, cz, rfl, _, hb⟩
            have HJ2 := Lib.hid (HJ.out.trans (hb.mono HJ.out.size))
            clear hb
            go_wp2_with fail
            exact ⟨N + 3 - (j + 1), by omega, j + 1, congrArg (Value.int .i64) HEX.out, by omega, rfl, HJ2, rfl⟩
        have v3 : -1 ≤ v := by omega
        have v4 : v < (N : Int) := by omega
        have heq2 : (v == (N : Int)) = false := by simp; omega
        clear hvv
        have hr : refusesN N f v ss = 0 := by unfold refusesN; rw [if_neg (by omega)]; exact HCX.out
        have hh := HFN1.out v hr
        rw [hr, hh] at HHX
        clear hr hh
        have HRF : Hid (∀ W, Below w8.heap.size w8 W → Calls Tryd.prog 19 #[.slice an N cn, .int .i64 v, .agg #[.slice pa m pc]] W fun e w' => ∃ A cc, e = .returned (.slice A (fromP (treePT evs) f v ss).length cc) ∧ IntsAt w' A (fromP (treePT evs) f v ss).length (fromP (treePT evs) f v ss) ∧ Below W.heap.size W w') := Lib.hid fun W hW => by
          have h := from12_all (cn := cn) v pa pc ss W v3 (by rw [HNN.out]; exact v4) (HKB.out W hW).2.2 (HSS.out W (HKB.out W hW).1) (by rw [HM.out]; exact HSL.out) HCX.out
          rw [HNN.out, HM.out] at h
          exact h.mono fun e w' ⟨A, cc, h1, h2, h3, _⟩ => ⟨A, cc, h1, h2, h3⟩
        have HIT : Hid (∀ (A B : Option Addr) (c1 c2 : Nat) W, IntsAt W A (fromP (treePT evs) f v ss).length (fromP (treePT evs) f v ss) → IntsAt W B (fromP (treePT evs) f v ss).length (fromP (treePT evs) f v ss) → Calls Tryd.prog 16 #[.slice A (fromP (treePT evs) f v ss).length c1, .slice B (fromP (treePT evs) f v ss).length c2] W fun e w' => e = .returned (.bool true) ∧ Below W.heap.size W w') := Lib.hid fun A B c1 c2 W h1 h2 => by
          have h := lawInts_any A B _ _ c1 c2 _ _ W h1 h2 (Nat.le_trans (HFPL.out v) (by decide))
          rw [decide_eq_true rfl] at h
          exact h
        generalize fromP (treePT evs) f v ss = lv at *
        generalize lv.length = ln at *
        go_wp2_with fail
        (with_reducible refine HHX.out.mono ?_)
        rintro e wz ⟨Az, cz, rfl, hiz, hb⟩
        have HJ2 := Lib.hid (HJ.out.trans (hb.mono HJ.out.size))
        have HIZ := Lib.hid hiz
        have HRX := Lib.hid (HRF.out wz HJ2.out)
        clear hb kw hiz
        have kw := HKS.out wz (HKB.out wz HJ2.out).1
        go_wp2_with fail
        (with_reducible refine HRX.out.mono ?_)
        rintro e wy ⟨Ay, cy, rfl, hiy, hb⟩
        have HJ3 := Lib.hid (HJ2.out.trans (hb.mono HJ2.out.size))
        have HITX := Lib.hid (HIT.out Az Ay cz cy wy (HIZ.out.below hb) hiy)
        clear hb hiy kw
        go_wp2_with fail
        (with_reducible refine HITX.out.mono ?_)
        rintro e wx ⟨rfl, hb⟩
        have HJ4 := Lib.hid (HJ3.out.trans (hb.mono HJ3.out.size))
        clear hb
        go_wp2_with fail
        exact ⟨N + 3 - (j + 1), by omega, j + 1, congrArg (Value.int .i64) HEX.out, by omega, rfl, HJ4, rfl⟩
    · have hr : refusesN N f (-1) ss = 6 := by unfold refusesN; rw [if_neg (by omega)]; exact HCX.out
      have hh : selectN (treePT evs) f ss = [] := by unfold selectN; rw [HFN0.out (-1) (by rw [hr]; decide)]; rfl
      rw [hr, hh] at HSEL
      clear hr hh
      rw [show ([] : List Int).length = 0 from rfl] at HSEL
      go_wp2_with fail
      (with_reducible refine HSEL.out.mono ?_)
      rintro e w9 ⟨A9, c9, rfl, _, hb⟩
      have HB9 := Lib.hid hb
      clear hb k8
      go_wp2_with fail
      refine wp_loop_ghost (fun k a1 wr => ∃ j : Nat, slotOf a1.tmps 10 = .int .i64 ((j : Int) - 2) ∧ j ≤ N + 3 ∧ k = N + 3 - j ∧ Hid (Below w8.heap.size w8 wr) ∧ a1 = { tmps := frSe a n c (.agg #[.slice pa m pc]) w.heap.size tb an N cn false a1.tmps, defers := [] }) (N + 3) ?atStartfalse ?roundfalse
      case atStartfalse => exact ⟨0, rfl, Nat.zero_le _, rfl, HB9, rfl⟩
      case roundfalse =>
        rintro mk ⟨t, dd⟩ wr ⟨j, h13, hjn, rfl, HJ, ha⟩
        obtain ⟨ha1, ha2⟩ := Act.mk.inj ha
        subst dd
        rw [ha1]
        clear ha ha1
        dsimp only [frSe] at h13 ⊢
        rw [h13]
        clear h13
        have ewj : IntKind.i64.wrap ((j : Int) - 2 + 1) = (j : Int) - 2 + 1 := IntWalk.i64_in _ (by omega)
        by_cases hj : j < N + 3
        rotate_left
        · have hj2 : j = N + 3 := by omega
          subst hj2
          have hj3 : (N : Int) < ((N + 3 : Nat) : Int) - 2 := by omega
          go_wp2_with fail
          go_ret
          exact ⟨rfl, FIN.out _ (HKB.out _ HJ.out).1⟩
        have HEX : Hid ((j : Int) - 2 + 1 = (((j + 1 : Nat) : Int) - 2)) := Lib.hid (by omega)
        obtain ⟨v, hv⟩ : ∃ v, (j : Int) - 2 = v := ⟨_, rfl⟩
        rw [hv] at ewj HEX ⊢
        have v2 : v ≤ (N : Int) := by omega
        have HHX := Lib.hid (HFRO.out v wr HJ.out)
        have kw := HKS.out wr (HKB.out wr HJ.out).1
        by_cases hvv : v < -1 ∨ (N : Int) ≤ v
        · have hr : refusesN N f v ss = 2 := if_pos hvv
          have hh := HFN0.out v (by rw [hr]; decide)
          rw [hr, hh] at HHX
          clear hr hh
          rw [show ([] : List Int).length = 0 from rfl] at HHX
          by_cases hlo : v < -1
          · clear hvv
            go_wp2_with fail
            (with_reducible refine HHX.out.mono ?_)
            rintro e wz ⟨Az, cz, rfl, _, hb⟩
            have HJ2 := Lib.hid (HJ.out.trans (hb.mono HJ.out.size))
            clear hb
            go_wp2_with fail
            exact ⟨N + 3 - (j + 1), by omega, j + 1, congrArg (Value.int .i64) HEX.out, by omega, rfl, HJ2, rfl⟩
          · have hlo2 : -1 ≤ v := by omega
            have heq : decide (v = (N : Int)) = true := decide_eq_true (by omega)
            have heq2 : (v == (N : Int)) = true := by simp; omega
            clear hvv hlo
            go_wp2_with fail
            (with_reducible refine HHX.out.mono ?_)
            rintro e wz ⟨Az, cz, rfl, _, hb⟩
            have HJ2 := Lib.hid (HJ.out.trans (hb.mono HJ.out.size))
            clear hb
            go_wp2_with fail
            exact ⟨N + 3 - (j + 1), by omega, j + 1, congrArg (Value.int .i64) HEX.out, by omega, rfl, HJ2, rfl⟩
        have v3 : -1 ≤ v := by omega
        have v4 : v < (N : Int) := by omega
        have heq2 : (v == (N : Int)) = false := by simp; omega
        clear hvv
        have hr : refusesN N f v ss = 6 := by unfold refusesN; rw [if_neg (by omega)]; exact HCX.out
        have hh := HFN0.out v (by rw [hr]; decide)
        rw [hr, hh] at HHX
        clear hr hh
        rw [show ([] : List Int).length = 0 from rfl] at HHX
        go_wp2_with fail
        (with_reducible refine HHX.out.mono ?_)
        rintro e wz ⟨Az, cz, rfl, _, hb⟩
        have HJ2 := Lib.hid (HJ.out.trans (hb.mono HJ.out.size))
        clear hb
        go_wp2_with fail
        exact ⟨N + 3 - (j + 1), by omega, j + 1, congrArg (Value.int .i64) HEX.out, by omega, rfl, HJ2, rfl⟩
end Go.Proofs.YtekoflcioooncaaDoor
