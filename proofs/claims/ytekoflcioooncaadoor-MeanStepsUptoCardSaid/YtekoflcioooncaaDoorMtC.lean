/-
  A tree of moderate size: from the bulk of its events; an event's parts from its weight.
-/
import Derived.Test.YtekoflcioooncaaDoorMcW
import Derived.Test.YtekoflcioooncaaDoorMcF
import Derived.Test.YtekoflcioooncaaDoorMtA
import Derived.Test.YtekoflcioooncaaDoorMtB
import Derived.BigQuiet
import Derived.Test.YtekoflcioooncaaDoorMcZG
import Derived.Test.YtekoflcioooncaaDoorMcZL
import Derived.ChangeMaps5
namespace Go.Proofs.YtekoflcioooncaaDoor
open Go.RowKit

theorem sum_nodup (g : Nat → Nat) : ∀ (n : Nat) (ks : List Nat), ks.Nodup → (∀ k ∈ ks, k < n) → (ks.map g).sum ≤ ((List.range n).map g).sum
  | 0, ks, _, h => by
    cases ks with
    | nil => simp
    | cons k r => have := h k List.mem_cons_self; omega
  | n + 1, ks, hn, h => by
    rw [List.range_succ, List.map_append, List.sum_append]
    simp only [List.map_cons, List.map_nil, List.sum_cons, List.sum_nil, Nat.add_zero]
    by_cases hm : n ∈ ks
    · have hp := List.perm_cons_erase hm
      have e : (ks.map g).sum = g n + ((ks.erase n).map g).sum := by
        rw [(hp.map g).sum_nat]; simp
      have := sum_nodup g n (ks.erase n) (hn.erase n) (fun k hk => by
        have h1 := h k (List.mem_of_mem_erase hk)
        have h2 : k ≠ n := fun e => by subst e; exact hn.not_mem_erase hk
        omega)
      omega
    · have := sum_nodup g n ks hn (fun k hk => by
        have h1 := h k hk
        have h2 : k ≠ n := fun e => by subst e; exact hm hk
        omega)
      omega
def txG (evs : List Ev) (p : Nat) : Nat := ((evs[p]?).map fun e => e.text.length).getD 0
theorem txG_sum (evs : List Ev) : ((List.range evs.length).map (txG evs)).sum ≤ wtEs evs := by
  have e : (List.range evs.length).map (txG evs) = evs.map (fun e => e.text.length) := by
    refine List.ext_getElem (by simp) fun i h1 h2 => ?_
    have hi : i < evs.length := by simpa using h2
    simp [txG, List.getElem?_eq_getElem hi]
  rw [e]
  unfold wtEs
  clear e
  induction evs with
  | nil => simp
  | cons x r ih => simp only [List.map_cons, List.sum_cons, wtE]; omega
def posN (evs : List Ev) (k : Nat) : Nat := ((nodesB evs)[k]?.map (·.pos)).getD 0
theorem txtR_bulk {evs : List Ev} (hw : wholeB evs = true) {i hi : Nat} (hhi : hi ≤ (nodesB evs).length) : (txtR evs i hi).length ≤ wtEs evs := by
  obtain ⟨t, ht, _, _⟩ := wholeB_some hw
  have hinv := NdInv.start.all evs ht
  rw [List.nil_append] at hinv
  have hk : ∀ k, k < (nodesB evs).length → ∃ e, evs[posN evs k]? = some e ∧ e.num = (k : Int) ∧ (ndTxt evs k).length = txG evs (posN evs k) := fun k hk => by
    have hx : (nodesB evs)[k]? = some (nodesB evs)[k] := List.getElem?_eq_getElem hk
    obtain ⟨e, he, _, hn⟩ := hinv.here k _ hx
    have hp : posN evs k = (nodesB evs)[k].pos := by unfold posN; rw [hx]; rfl
    refine ⟨e, by rw [hp]; exact he, hn, ?_⟩
    unfold ndTxt txG
    rw [hp, hx]
    simp [he]
  have hmem : ∀ k ∈ List.range' i (hi - i), k < (nodesB evs).length := fun k h => by rw [List.mem_range'_1] at h; omega
  have e : (txtR evs i hi).length = (((List.range' i (hi - i)).map (posN evs)).map (txG evs)).sum := by
    unfold txtR
    rw [List.length_flatMap, List.map_map]
    congr 1
    refine List.map_congr_left fun k h => ?_
    obtain ⟨_, _, _, h3⟩ := hk k (hmem k h)
    exact h3
  rw [e]
  refine Nat.le_trans (sum_nodup (txG evs) evs.length _ ?_ ?_) (txG_sum evs)
  · refine List.pairwise_map.2 (List.Pairwise.imp_of_mem ?_ (List.nodup_range' (step := 1) (Nat.zero_lt_one)))
    intro a b ha hb hab heq
    obtain ⟨e1, h1, h2, _⟩ := hk a (hmem a ha)
    obtain ⟨e2, k1, k2, _⟩ := hk b (hmem b hb)
    rw [heq, k1] at h1
    cases h1
    rw [h2] at k2
    exact hab (by omega)
  · intro p hp
    obtain ⟨k, h, rfl⟩ := List.mem_map.1 hp
    obtain ⟨e1, h1, _⟩ := hk k (hmem k h)
    exact (List.getElem?_eq_some_iff.1 h1).1
theorem evSmQ (e : Ev) (h : wtE e ≤ 1048576) : EvSm e := by
  unfold wtE at h
  have hA : ∀ (l : List (List UInt8 × List UInt8)), l.length ≤ wtA l ∧ ∀ p ∈ l, p.1.length ≤ wtA l ∧ p.2.length ≤ wtA l := by
    intro l
    induction l with
    | nil => exact ⟨Nat.le_refl _, fun p hp => by cases hp⟩
    | cons x r ih =>
      obtain ⟨h1, h2⟩ := ih
      have e : wtA (x :: r) = x.1.length + x.2.length + 1 + wtA r := by unfold wtA; simp
      refine ⟨by simp; omega, fun p hp => ?_⟩
      rcases List.mem_cons.1 hp with rfl | hp
      · omega
      · have := h2 p hp; omega
  obtain ⟨h1, h2⟩ := hA e.ats
  exact ⟨by omega, by omega, by omega, fun p hp => by have := h2 p hp; omega⟩
theorem evsSm {evs : List Ev} (h : wtEs evs ≤ 1048576) : ∀ e ∈ evs, EvSm e := fun e he => by
  obtain ⟨i, hi, rfl⟩ := List.getElem_of_mem he
  exact evSmQ _ (Nat.le_trans (wtEs_mem evs i hi) h)
theorem tq_of {w : World} {tb B : Nat} {evs : List Ev} (h : TreeAt w B tb evs) (hw : wholeB evs = true) (hwt : wtEs evs ≤ 1048576) (hL : (nodesB evs).length ≤ 1024) : TQ w tb evs := by
  refine ⟨⟨B, h⟩, hw, evsSm hwt, hL, fun v i h1 h2 => ?_⟩
  obtain ⟨t, ht, _, _⟩ := wholeB_some hw
  refine Nat.le_trans (txtR_bulk hw ?_) hwt
  unfold hiOf
  split
  · exact Nat.le_refl _
  · have := lastN_rng ht v.toNat (by omega); omega
end Go.Proofs.YtekoflcioooncaaDoor

/-
  The law MeanSteps.
-/
namespace Go.Proofs.YtekoflcioooncaaDoor
open Go.RowKit

def frS (v0 v1 v9 v10 : Value) (at' : Int) (P4 tb : Nat) (t : Array Value) : Array Value :=
  #[v0, v1, .int .i64 at', slotOf t 3, .pointer (some ⟨P4, 0, none⟩), slotOf t 5, slotOf t 6, .pointer (some ⟨tb, 0, none⟩), slotOf t 8, v9, v10, slotOf t 11, slotOf t 12, slotOf t 13, slotOf t 14, slotOf t 15, slotOf t 16, slotOf t 17, slotOf t 18, slotOf t 19, slotOf t 20, slotOf t 21, slotOf t 22, slotOf t 23, slotOf t 24, slotOf t 25, slotOf t 26, slotOf t 27, slotOf t 28, slotOf t 29, slotOf t 30, slotOf t 31, slotOf t 32, slotOf t 33, slotOf t 34, slotOf t 35, slotOf t 36, slotOf t 37, slotOf t 38, slotOf t 39, slotOf t 40, slotOf t 41, slotOf t 42, slotOf t 43, slotOf t 44, slotOf t 45, slotOf t 46, slotOf t 47, slotOf t 48, slotOf t 49, slotOf t 50, slotOf t 51, slotOf t 52, slotOf t 53, slotOf t 54, slotOf t 55, slotOf t 56, slotOf t 57, slotOf t 58, slotOf t 59, slotOf t 60, slotOf t 61, slotOf t 62, slotOf t 63, slotOf t 64, slotOf t 65, slotOf t 66, slotOf t 67, slotOf t 68, slotOf t 69, slotOf t 70, slotOf t 71, slotOf t 72, slotOf t 73, slotOf t 74, slotOf t 75, slotOf t 76, slotOf t 77, slotOf t 78, slotOf t 79, slotOf t 80, slotOf t 81, slotOf t 82, slotOf t 83, slotOf t 84, slotOf t 85, slotOf t 86, slotOf t 87, slotOf t 88, slotOf t 89, slotOf t 90, slotOf t 91, slotOf t 92, slotOf t 93, slotOf t 94, slotOf t 95, slotOf t 96, slotOf t 97, slotOf t 98, slotOf t 99, slotOf t 100, slotOf t 101, slotOf t 102, slotOf t 103, slotOf t 104, slotOf t 105, slotOf t 106, slotOf t 107, slotOf t 108, slotOf t 109, slotOf t 110, slotOf t 111, slotOf t 112, slotOf t 113, slotOf t 114, slotOf t 115, slotOf t 116, slotOf t 117, slotOf t 118, slotOf t 119, slotOf t 120, slotOf t 121, slotOf t 122, slotOf t 123, slotOf t 124, slotOf t 125, slotOf t 126, slotOf t 127, slotOf t 128, slotOf t 129, slotOf t 130, slotOf t 131, slotOf t 132, slotOf t 133, slotOf t 134, slotOf t 135, slotOf t 136, slotOf t 137, slotOf t 138, slotOf t 139, slotOf t 140, slotOf t 141, slotOf t 142, slotOf t 143, slotOf t 144, slotOf t 145, slotOf t 146, slotOf t 147, slotOf t 148, slotOf t 149, slotOf t 150, slotOf t 151, slotOf t 152, slotOf t 153, slotOf t 154, slotOf t 155, slotOf t 156, slotOf t 157, slotOf t 158, slotOf t 159, slotOf t 160, slotOf t 161, slotOf t 162, slotOf t 163, slotOf t 164, slotOf t 165, slotOf t 166, slotOf t 167, slotOf t 168, slotOf t 169, slotOf t 170, slotOf t 171, slotOf t 172, slotOf t 173, slotOf t 174, slotOf t 175, slotOf t 176, slotOf t 177, slotOf t 178, slotOf t 179, slotOf t 180, slotOf t 181, slotOf t 182]

set_option maxRecDepth 1000000 in
set_option maxHeartbeats 8000000 in
theorem meanSteps_of {f : Nat} (hf : f ≤ 1048576) (a : Option Addr) (n c : Nat) (evs : List Ev) (pa : Option Addr) (pc : Nat) (ss : List PS) (at0 : Int) (w : World) (hE : EnvT w) (hev : EvsAt w a n evs) (hw : wtEs evs ≤ 1048576) (hs : SsAt f w pa ss) (hpc : ss.length ≤ pc) (hsl : ss.length ≤ 1048576) (ha1 : at0 ≤ 9223372036854775807) :
    Calls Tryd.prog 5 #[.slice a n c, .agg #[.slice pa ss.length pc], .int .i64 at0] w fun e w' => e = .returned (.bool true) ∧ Below w.heap.size w w' := by
  have hn : n ≤ 1048576 := by have := wtEs_length evs; have := hev.1; omega
  obtain ⟨W0, hW0⟩ : ∃ W0, W0 = w.alloc (.cells #[.slice pa ss.length pc] 25) := ⟨_, rfl⟩
  have hb0 : Below w.heap.size w W0 := by rw [hW0]; exact (Below.refl w.heap.size w).alloc (Nat.le_refl _) _
  have hsz0 : W0.heap.size = w.heap.size + 1 := by rw [hW0]; simp
  have hk4 : W0.heap[w.heap.size]? = some (.cells #[.slice pa ss.length pc] 25 (0, 0)) := by
    rw [hW0]; exact heap_alloc_new w _
  obtain ⟨m, hm⟩ : ∃ m, ss.length = m := ⟨_, rfl⟩
  rw [hm] at hW0 hk4 hpc hsl ⊢
  have HKS : Hid (∀ W, Below W0.heap.size W0 W → W.cell? ⟨w.heap.size, 0, none⟩ = some (.slice pa m pc)) := Lib.hid fun W hW => by
    rw [cell_heap ((hW.block w.heap.size (by omega)).trans hk4)]; rfl
  have FIN : Hid (∀ W, Below W0.heap.size W0 W → Below w.heap.size w W) := Lib.hid fun W hW => hb0.trans (hW.mono hb0.size)
  have HAW := Lib.hid (awake12_any steps_all W0 (hE.below hb0))
  have HBD : Hid (∀ W, Below W0.heap.size W0 W → Calls Tryd.prog 10 #[.slice a n c] W fun e w' => ((wholeB evs = true ∧ ∃ tb, e = .returned (.tuple #[.pointer (some ⟨tb, 0, none⟩), .int .i64 0]) ∧ TreeAt w' W.heap.size tb evs) ∨ (wholeB evs = false ∧ e = .returned (.tuple #[.pointer none, .int .i64 6]))) ∧ Below W.heap.size W w') := Lib.hid fun W hW =>
    treeBuild_any a n c evs W (hev.below (FIN.out W hW)) hn (evsSm hw) (hE.below (FIN.out W hW)).rng (hE.below (FIN.out W hW)).tab
  have HLT : Hid (∀ W, Below W0.heap.size W0 W → Calls Tryd.prog 11 #[.agg #[.slice pa m pc]] W fun e w' => SomeB e ∧ Below W.heap.size W w') := Lib.hid fun W hW => by
    have := light_any pa pc ss W (SsAt.below hs (FIN.out W hW)) (by rw [hm]; exact hsl)
    rw [hm] at this; exact this
  have HCK : Hid (∀ W, Below W0.heap.size W0 W → Calls Tryd.prog 14 #[.agg #[.slice pa m pc]] W fun e w' => e = .returned (.int .i64 (checkN f ss)) ∧ Below W.heap.size W w') := Lib.hid fun W hW => by
    have := check_any hf pa pc ss W (hE.below (FIN.out W hW)) (SsAt.below hs (FIN.out W hW)) (by rw [hm]; exact hsl)
    rw [hm] at this; exact this
  have HENV : Hid (∀ W, Below W0.heap.size W0 W → EnvT W) := Lib.hid fun W hW => hE.below (FIN.out W hW)
  have HSS : Hid (∀ W, Below W0.heap.size W0 W → SsAt f W pa ss) := Lib.hid fun W hW => SsAt.below hs (FIN.out W hW)
  have HWT := Lib.hid hw
  have HM := Lib.hid hm
  have HF := Lib.hid hf
  have HW0E := Lib.hid hW0
  have hs0 := hs
  clear hW0 hb0 hsz0 hk4 hE hev hw hs hm hn hf
  go_enter Tryd.func5, Tryd.ntmps5
  go_wp2_with fail
  rw [← HW0E.out]
  (with_reducible refine HAW.out.mono ?_)
  rintro e w1 ⟨rfl, hb1⟩
  have HB1 := Lib.hid hb1
  have HBDX := Lib.hid (HBD.out w1 hb1)
  clear hb1
  go_wp2_with fail
  (with_reducible refine HBDX.out.mono ?_)
  rintro e w2 ⟨he, hb2⟩
  have HB2 := Lib.hid (HB1.out.trans (hb2.mono HB1.out.size))
  clear hb2
  rcases he with ⟨hwh, tb, rfl, htr⟩ | ⟨_, rfl⟩
  rotate_left
  · clear hs0
    go_wp2_with fail
    go_ret
    exact ⟨rfl, FIN.out _ HB2.out⟩
  have HTR := Lib.hid htr
  have HWH := Lib.hid hwh
  clear htr hwh
  have HLEN : Hid (∀ W, Below w2.heap.size w2 W → Calls Tryd.prog 12 #[.pointer (some ⟨tb, 0, none⟩)] W fun e w' => e = .returned (.int .i64 ((nodesB evs).length : Nat)) ∧ w' = W) := Lib.hid fun W hW => len_any (treeLast (HTR.out.below hW) HWH.out)
  have HL2 := Lib.hid (HLT.out w2 HB2.out)
  have k2 := HKS.out w2 HB2.out
  have HS0 := Lib.hid hs0
  clear hs0
  go_wp2_with fail
  (with_reducible refine HL2.out.mono ?_)
  rintro e w3 ⟨⟨b3, rfl⟩, hb3⟩
  have HB3 := Lib.hid (HB2.out.trans (hb3.mono HB2.out.size))
  have HB23 := Lib.hid hb3
  clear hb3 k2
  cases b3 with
  | false =>
    go_wp2_with fail
    go_ret
    exact ⟨rfl, FIN.out _ HB3.out⟩
  | true =>
    have HLN3 := Lib.hid (HLEN.out w3 HB23.out)
    obtain ⟨N, hN⟩ : ∃ N, (nodesB evs).length = N := ⟨_, rfl⟩
    rw [hN] at HLN3 HLEN
    have HNN := Lib.hid hN
    clear hN
    by_cases h60 : 60 < N
    · have h60' : (60 : Int) < (N : Int) := by omega
      go_wp2_with fail
      (with_reducible refine HLN3.out.mono ?_)
      rintro e w7 ⟨rfl, rfl⟩
      go_wp2_with fail
      go_ret
      exact ⟨rfl, FIN.out _ HB3.out⟩
    have h60' : (N : Int) ≤ 60 := by omega
    have HTQ : Hid (∀ W, Below w2.heap.size w2 W → TQ W tb evs) := Lib.hid fun W hW => tq_of (HTR.out.below hW) HWH.out HWT.out (by rw [HNN.out]; omega)
    have HN60 : Hid (N ≤ 60) := Lib.hid (by omega)
    have k3 := HKS.out w3 HB3.out
    have HC3 := Lib.hid (HCK.out w3 HB3.out)
    obtain ⟨cx, hcx⟩ : ∃ cx, checkN f ss = cx := ⟨_, rfl⟩
    rw [hcx] at HC3
    have HCX := Lib.hid hcx
    clear hcx h60
    go_wp2_with fail
    (with_reducible refine HLN3.out.mono ?_)
    rintro e w7 ⟨rfl, rfl⟩
    go_wp2_with fail
    (with_reducible refine HC3.out.mono ?_)
    rintro e w4 ⟨rfl, hb4⟩
    have HB4 := Lib.hid (HB3.out.trans (hb4.mono HB3.out.size))
    have HB24 := Lib.hid (HB23.out.trans (hb4.mono HB23.out.size))
    clear hb4 k3
    by_cases hc : cx = 0
    rotate_left
    · have hne : (cx != 0) = true := by simp [hc]
      go_wp2_with fail
      go_ret
      exact ⟨rfl, FIN.out _ HB4.out⟩
    subst hc
    have k4 := HKS.out w4 HB4.out
    by_cases hm2 : m < 2
    · have hm2' : (m : Int) < 2 := by omega
      go_wp2_with fail
      go_ret
      exact ⟨rfl, FIN.out _ HB4.out⟩
    have hm2' : (2 : Int) ≤ (m : Int) := by omega
    by_cases hat : at0 < 0
    · go_wp2_with fail
      go_ret
      exact ⟨rfl, FIN.out _ HB4.out⟩
    have hat' : 0 ≤ at0 := by omega
    clear hat hm2
    obtain ⟨pb, po, _, rfl, _⟩ := HS0.out 0 (by rw [HM.out]; omega)
    obtain ⟨k, hk⟩ : ∃ k : Nat, 1 + at0 % ((m : Int) - 1) = (k : Int) := ⟨(1 + at0 % ((m : Int) - 1)).toNat, by have := Int.emod_nonneg at0 (show (m : Int) - 1 ≠ 0 by omega); omega⟩
    have hk1 : 1 ≤ k := by have := Int.emod_nonneg at0 (show (m : Int) - 1 ≠ 0 by omega); omega
    have hk2 : k < m := by have := Int.emod_lt_of_pos at0 (show (0 : Int) < (m : Int) - 1 by omega); omega
    have hwk : Go.RowKit.wrap64 (1 + at0 % ((m : Int) - 1)) = (k : Int) := by rw [hk, w64_eq, IntWalk.i64_in _ (by omega)]
    clear hk
    have HT2 : Hid (Below w2.heap.size w2 w4) := Lib.hid HB24.out
    obtain ⟨T, hT⟩ : ∃ T, treePT evs = T := ⟨_, rfl⟩
    have HTN : Hid (T.N = N ∧ treePT evs = T) := Lib.hid ⟨by rw [← hT]; exact HNN.out, hT⟩
    have HLENL : Hid (∀ v tt, (fromP T f v tt).length ≤ N + 1) := Lib.hid fun v tt => by
      refine Nat.le_trans (trueTo_len _ _) ?_
      rw [stepsP_len, oneP_len, HTN.out.1]; exact Nat.le_refl _
    have HFR : Hid (∀ (v : Int) (A : Option Addr) (L C : Nat) (tt : List PS) (W : World), Below W0.heap.size W0 W → Below w2.heap.size w2 W → -1 ≤ v → v < (N : Int) → checkN f tt = 0 → SsAt f W A tt → tt.length = L → L ≤ 1048576 → Calls Tryd.prog 18 #[.pointer (some ⟨tb, 0, none⟩), .int .i64 v, .agg #[.slice A L C]] W fun e w' => ∃ A' cc, e = .returned (.tuple #[.slice A' (fromP T f v tt).length cc, .int .i64 0]) ∧ (fromP T f v tt).length ≤ cc ∧ IntsAt w' A' (fromP T f v tt).length (fromP T f v tt) ∧ (∀ ad, A' = some ad → W.heap.size ≤ ad.block) ∧ Below W.heap.size W w') := Lib.hid fun v A L C tt W hW hW2 h1 h2 hck hss hl hll => by
      have h := from_new (f := f) HF.out (steps_all f tb evs) v A C tt W (HTQ.out W hW2) (HENV.out W hW) hss (by rw [hl]; exact hll)
      have hr : refusesN (nodesB evs).length f v tt = 0 := by
        unfold refusesN
        rw [if_neg (by rw [HNN.out]; omega)]; exact hck
      have hfr : fromN (treePT evs) f v tt = fromP (treePT evs) f v tt := if_pos hr
      rw [hfr, hr, HTN.out.2, hl] at h
      exact h
    have HGO : Hid (∀ tt : List PS, tt ≠ [] → (∀ s ∈ tt, s ∈ ss) → checkN f tt = 0) := Lib.hid fun tt h1 h2 => check_of h1 fun s hs => check_steps HCX.out s (h2 s hs)
    have HFA := Lib.hid (HFR.out (-1) (some ⟨pb, po, none⟩) m pc ss w4 HB4.out HB24.out (by omega) (by omega) HCX.out (HSS.out w4 HB4.out) HM.out (by omega))
    clear hT
    have hmp : m ≤ pc := hpc
    have hkp1 : (k : Int) ≤ (pc : Int) := by omega
    have hkp2 : (k : Int) < (pc : Int) := by omega
    have hkp3 : k < pc := by omega
    have hkp4 : (k : Int) ≤ (m : Int) := by omega
    have hkp5 : ((m : Int) - (k : Int)).toNat = m - k := by omega
    have hkp6 : ((pc : Int) - (k : Int)).toNat = pc - k := by omega
    have hkp7 : (0 : Int) ≤ (k : Int) := by omega
    have hkp8 : ¬ (k = pc) := by omega
    have hkp9 : ¬ (pc = k) := by omega
    go_wp2_with fail
    (with_reducible refine HFA.out.mono ?_)
    rintro e w5 ⟨A5, c5, rfl, hl5, hi5, _, hb5⟩
    have HB5 := Lib.hid (HB4.out.trans (hb5.mono HB4.out.size))
    have HB25 := Lib.hid (HB24.out.trans (hb5.mono HB24.out.size))
    have HI5 := Lib.hid hi5
    have k5 := HKS.out w5 HB5.out
    have HFB := Lib.hid (HFR.out (-1) (some ⟨pb, po, none⟩) k k (ss.take k) w5 HB5.out HB25.out (by omega) (by omega) (HGO.out _ (by intro h; have := congrArg List.length h; rw [List.length_take, HM.out] at this; simp at this; omega) fun s hs => List.mem_of_mem_take hs) (SsAt.take (HSS.out w5 HB5.out) k) (by rw [List.length_take, HM.out]; omega) (by omega))
    clear hl5 hi5 hb5
    go_wp2_with fail
    (with_reducible refine HFB.out.mono ?_)
    rintro e w6 ⟨A6, c6, rfl, hl6, hi6, _, hb6⟩
    have HB6 := Lib.hid (HB5.out.trans (hb6.mono HB5.out.size))
    have HB26 := Lib.hid (HB25.out.trans (hb6.mono HB25.out.size))
    have HI56 := Lib.hid (HI5.out.below hb6)
    have HI6 := Lib.hid hi6
    clear hl6 hi6 hb6 k5
    obtain ⟨F, hF⟩ : ∃ F, fromP T f (-1) (ss.take k) = F := ⟨_, rfl⟩
    obtain ⟨ALL, hALL⟩ : ∃ F, fromP T f (-1) ss = F := ⟨_, rfl⟩
    have HSUM : Hid (sumL (fun y => fromP T f y (ss.drop k)) F = ALL) := Lib.hid (by
      rw [← hF, ← hALL, sum_from, List.take_append_drop])
    have hFl : F.length ≤ 61 := by have := HLENL.out (-1) (ss.take k); rw [hF] at this; omega
    have hAl : ALL.length ≤ 61 := by have := HLENL.out (-1) ss; rw [hALL] at this; omega
    have HFM : Hid (∀ x ∈ F, -1 ≤ x ∧ x < (N : Int)) := Lib.hid fun x hx => by
      rw [← hF] at hx
      obtain ⟨q, rfl, hq⟩ := mem_fromP.1 hx
      have hq2 := fr_lt hq
      rw [stepsP_len, oneP_len, HTN.out.1] at hq2
      omega
    rw [hF] at HI6 ⊢
    rw [hALL] at HI56 ⊢
    have HAL := Lib.hid hAl
    clear hF hALL hAl
    obtain ⟨fn, hfn⟩ : ∃ fn, F.length = fn := ⟨_, rfl⟩
    rw [hfn] at HI6 hFl ⊢
    have HFN := Lib.hid hfn
    clear hfn
    obtain ⟨sm, hsm⟩ : ∃ sm : Nat → List Int, sm = fun i => sumL (fun y => fromP T f y (ss.drop k)) (F.take i) := ⟨_, rfl⟩
    have HSM0 : Hid (sm 0 = []) := Lib.hid (by rw [hsm]; simp [sumL])
    have HSMN : Hid (sm fn = ALL) := Lib.hid (by rw [hsm]; show sumL _ (F.take fn) = _; rw [List.take_of_length_le (by rw [HFN.out]; exact Nat.le_refl _)]; exact HSUM.out)
    have HSMS : Hid (∀ i, (hi : i < F.length) → sm (i + 1) = unionL (sm i) (fromP T f F[i] (ss.drop k))) := Lib.hid fun i hi => by
      rw [hsm]
      show sumL _ (F.take (i + 1)) = unionL (sumL _ (F.take i)) _
      unfold sumL
      rw [List.take_succ_eq_append_getElem hi, List.foldl_append]; rfl
    have HSML : Hid (∀ i, (sm i).length ≤ 61 * 61) := Lib.hid fun i => by
      rw [hsm]
      have h := sum_len (fun y => fromP T f y (ss.drop k)) 61 (fun y => by have := HLENL.out y (ss.drop k); have := HN60.out; omega) (F.take i) []
      have h2 : (F.take i).length ≤ 61 := by rw [List.length_take]; have := HFN.out; omega
      have h3 := Nat.mul_le_mul_right 61 h2
      simp only [List.length_nil, Nat.zero_add] at h
      exact Nat.le_trans h h3
    clear hsm
    have HBB : Hid (∀ W, Below w6.heap.size w6 W → Below W0.heap.size W0 W ∧ Below w2.heap.size w2 W) := Lib.hid fun W hW => ⟨HB6.out.trans (hW.mono HB6.out.size), HB26.out.trans (hW.mono HB26.out.size)⟩
    have HBS : Hid (Below w6.heap.size w6 w6) := Lib.hid (Below.refl _ _)
    go_wp2_with fail
    refine wp_loop_ghost (fun kk a1 wr => ∃ (i : Nat) (As : Option Addr) (cs : Nat), slotOf a1.tmps 13 = .int .i64 (i : Nat) ∧ slotOf a1.tmps 12 = .slice As (sm i).length cs ∧ i ≤ fn ∧ kk = fn - i ∧ Hid (Below w6.heap.size w6 wr ∧ (sm i).length ≤ cs ∧ IntsAt wr As (sm i).length (sm i)) ∧ a1 = { tmps := frS (.slice a n c) (.agg #[.slice (some ⟨pb, po, none⟩) m pc]) (.slice A5 ALL.length c5) (.slice A6 fn c6) (k : Int) w.heap.size tb a1.tmps, defers := [] }) fn ?atStart ?round
    case atStart => exact ⟨0, none, 0, rfl, by rw [HSM0.out]; rfl, Nat.zero_le _, rfl, Lib.hid ⟨HBS.out, by rw [HSM0.out]; exact Nat.le_refl _, by rw [HSM0.out]; exact ⟨rfl, fun i hi => absurd hi (Nat.not_lt_zero _)⟩⟩, rfl⟩
    case round =>
      rintro mk ⟨t, dd⟩ wr ⟨i, As, cs, h13, h12, him, rfl, HJ, ha⟩
      obtain ⟨ha1, ha2⟩ := Act.mk.inj ha
      subst dd
      rw [ha1]
      clear ha ha1
      dsimp only [frS] at h13 h12 ⊢
      rw [h13, h12]
      clear h13 h12
      by_cases hi : i < fn
      · have i1 : (0 : Int) ≤ (i : Int) := by omega
        have i2 : (i : Int) < (fn : Int) := by omega
        have ewi : IntKind.i64.wrap ((i : Int) + 1) = ((i + 1 : Nat) : Int) := by rw [IntWalk.i64_in _ (by omega)]; omega
        have hil : i < F.length := by rw [HFN.out]; exact hi
        obtain ⟨b6, o6, rfl, hb6, hc6⟩ := HI6.out.at' i hil
        have HCS : Hid (∀ W, Below w6.heap.size w6 W → W.cell? ⟨b6, o6 + i, none⟩ = some (.int .i64 F[i]) ∧ W.cell? ⟨w.heap.size, 0, none⟩ = some (.slice (some ⟨pb, po, none⟩) m pc) ∧ Below w6.heap.size w6 W) := Lib.hid fun W hW => ⟨(hW.cell (p := ⟨b6, o6 + i, none⟩) hb6).trans hc6, HKS.out W (HBB.out W hW).1, hW⟩
        have HNX := Lib.hid (HSMS.out i hil)
        have hyr := HFM.out _ (List.getElem_mem hil)
        have HFX : Hid (∀ W, Below w6.heap.size w6 W → Calls Tryd.prog 18 #[.pointer (some ⟨tb, 0, none⟩), .int .i64 F[i], .agg #[.slice (some ⟨pb, po + k * 4, none⟩) (m - k) (pc - k)]] W fun e w' => ∃ A' cc, e = .returned (.tuple #[.slice A' (fromP T f F[i] (ss.drop k)).length cc, .int .i64 0]) ∧ (fromP T f F[i] (ss.drop k)).length ≤ cc ∧ IntsAt w' A' (fromP T f F[i] (ss.drop k)).length (fromP T f F[i] (ss.drop k)) ∧ Below W.heap.size W w' ∧ Below w6.heap.size w6 w') := Lib.hid fun W hW => by
          have h := HFR.out F[i] (some ⟨pb, po + k * 4, none⟩) (m - k) (pc - k) (ss.drop k) W (HBB.out W hW).1 (HBB.out W hW).2 hyr.1 hyr.2 (HGO.out _ (by intro h; have := congrArg List.length h; rw [List.length_drop, HM.out] at this; simp at this; omega) fun s hs => List.mem_of_mem_drop hs) (SsAt.drop (HSS.out W (HBB.out W hW).1) k) (by rw [List.length_drop, HM.out]) (by omega)
          exact h.mono fun e w' ⟨A', cc, q1, q2, q3, _, q4⟩ => ⟨A', cc, q1, q2, q3, q4, hW.trans (q4.mono hW.size)⟩
        have HDL : Hid ((fromP T f F[i] (ss.drop k)).length ≤ 61) := Lib.hid (by have := HLENL.out F[i] (ss.drop k); have := HN60.out; omega)
        generalize F[i] = y at *
        generalize fromP T f y (ss.drop k) = D at *
        clear hyr hc6 hb6
        have hbd := HJ.out.1.drew
        obtain ⟨c1, c2, _⟩ := HCS.out _ hbd
        obtain ⟨c3, c4, _⟩ := HCS.out _ HJ.out.1
        go_wp2_with fail
        go_region_held3 (fun w' => w'.cell? ⟨b6, o6 + i, none⟩ = some (.int .i64 y) ∧ w'.cell? ⟨w.heap.size, 0, none⟩ = some (.slice (some ⟨pb, po, none⟩) m pc) ∧ Below w6.heap.size w6 w') (first | exact HCS.out _ hbd | exact HCS.out _ ‹_›) (first | (go_at_call 18; (with_reducible refine (HFX.out _ hbd).mono ?_); rintro e w8 ⟨A8, c8, rfl, q2, q3, q4, q5⟩))
        have HB8 := Lib.hid q5
        have HI8 := Lib.hid q3
        have HIS : Hid (IntsAt w8 As (sm i).length (sm i)) := Lib.hid (IntsAt.below (w := wr) HJ.out.2.2 (Below.trans ((Below.refl _ _).drew) q4))
        have HUN := Lib.hid (union_any As A8 (sm i).length D.length cs c8 (sm i) D w8 HIS.out HI8.out (Nat.le_trans (HSML.out i) (by decide)) (Nat.le_trans HDL.out (by decide)) HJ.out.2.1)
        rw [← HNX.out] at HUN
        clear q2 q3 q4 q5 hbd c1 c2 c3 c4
        go_wp2_with fail
        (with_reducible refine HUN.out.mono ?_)
        rintro e w9 ⟨A9, c9, rfl, q2, q3, q4⟩
        have HJ9 := Lib.hid (And.intro (HB8.out.trans (q4.mono HB8.out.size)) (And.intro q2 q3))
        clear q2 q3 q4
        go_wp2_with fail
        exact ⟨fn - (i + 1), by omega, i + 1, A9, c9, rfl, rfl, by omega, rfl, Lib.hid HJ9.out, rfl⟩
      · have hi2 : i = fn := by omega
        subst hi2
        have i3 : (i : Int) ≤ (i : Int) := Int.le_refl _
        have HIN : Hid (∀ W, Below wr.heap.size wr W → Calls Tryd.prog 16 #[.slice As (sm i).length cs, .slice A5 ALL.length c5] W fun e w' => e = .returned (.bool true) ∧ Below W.heap.size W w') := Lib.hid fun W hW => by
          have h := lawInts_any As A5 (sm i).length ALL.length cs c5 (sm i) ALL W (HJ.out.2.2.below hW) ((HI56.out.below HJ.out.1).below hW) (Nat.le_trans (HSML.out i) (by decide))
          rw [decide_eq_true HSMN.out] at h
          exact h
        have HINX := Lib.hid (HIN.out wr (Below.refl _ _))
        clear HIN
        generalize (sm i).length = sn at *
        generalize ALL.length = an at *
        have hs1 : 0 < ss.length := by rw [HM.out]; omega
        obtain ⟨pb', po', wa, wc, e0, hpb, hst, hcs⟩ := HS0.out.get' 0 hs1
        cases e0
        have HST : Hid (StepAt (XAt f) w ss[0] (stepC ss[0] wa wc)) := Lib.hid hst
        have HSC : Hid (∀ W, Below w.heap.size w W → W.cell? ⟨pb, po, none⟩ = some (.int .i64 ss[0].axis) ∧ W.cell? ⟨pb, po + 1, none⟩ = some (.int .i64 ss[0].test) ∧ W.cell? ⟨pb, po + 2, none⟩ = some (.string (strL ss[0].name)) ∧ W.cell? ⟨pb, po + 3, none⟩ = some (.slice wa ss[0].wher.length wc)) := Lib.hid fun W hW => by have := hcs W hW; simpa using this
        have HGS := Lib.hid (check_steps HCX.out ss[0] (List.getElem_mem hs1))
        generalize ss[0] = s0 at *
        clear hst hcs hpb hs1
        obtain ⟨ax, te, nm, wl⟩ := s0
        simp only [PS.axis, PS.test, PS.name, PS.wher] at HSC HGS
        obtain ⟨D, hD⟩ : ∃ D : Int → List Int, D = fun b => fromP T f (-1) [.mk b te nm wl] := ⟨_, rfl⟩
        obtain ⟨D2, hD2⟩ : ∃ D, fromP T f (-1) [.mk 2 3 [] [], .mk 0 te nm wl] = D := ⟨_, rfl⟩
        have HDU : Hid (D 2 = unionL (D 3) (D 1) ∧ D2 = D 1) := Lib.hid (by
          rw [hD, ← hD2, ← HTN.out.2]
          exact ⟨from_orself HWH.out f te nm wl, from_child HWH.out f te nm wl⟩)
        have HDLN : Hid (∀ b, (D b).length ≤ 61) := Lib.hid fun b => by rw [hD]; have := HLENL.out (-1) [.mk b te nm wl]; have := HN60.out; exact Nat.le_trans (by assumption) (by omega)
        have HD2L : Hid (D2.length ≤ 61) := Lib.hid (by rw [HDU.out.2]; exact HDLN.out 1)
        have HBW : Hid (∀ W, Below w6.heap.size w6 W → Below w.heap.size w W) := Lib.hid fun W hW => FIN.out W (HBB.out W hW).1
        have HF1 : Hid (∀ (b : Int) W G, 0 ≤ b ∧ b ≤ 3 → Below w6.heap.size w6 W → W.heap[G]? = some (.cells #[.int .i64 b, .int .i64 te, .string (strL nm), .slice wa wl.length wc] 57 (0, 0)) → Calls Tryd.prog 18 #[.pointer (some ⟨tb, 0, none⟩), .int .i64 (-1), .agg #[.slice (some ⟨G, 0, none⟩) 1 1]] W fun e w' => ∃ A' cc, e = .returned (.tuple #[.slice A' (D b).length cc, .int .i64 0]) ∧ (D b).length ≤ cc ∧ IntsAt w' A' (D b).length (D b) ∧ (∀ ad, A' = some ad → W.heap.size ≤ ad.block) ∧ Below W.heap.size W w') := Lib.hid fun b W G hb hW hG => by
          have hsa := (StepAt.axis HST.out b (by unfold W64; omega)).turn (HBW.out W hW) fun _ _ => XAt.turn (HBW.out W hW) (Nat.le_refl _)
          have h := HFR.out (-1) (some ⟨G, 0, none⟩) 1 1 [.mk b te nm wl] W (HBB.out W hW).1 (HBB.out W hW).2 (by omega) (by omega) (check_of (by simp) fun s hs => by
            obtain rfl : s = .mk b te nm wl := by simpa using hs
            exact ⟨good_axis b hb HGS.out.1, HGS.out.2⟩) (ss_row hG rfl hsa) rfl (by decide)
          rw [hD]; exact h
        have HF2 : Hid (∀ W G, Below w6.heap.size w6 W → W.heap[G]? = some (.cells #[.int .i64 2, .int .i64 3, .string ⟨#[]⟩, .slice none 0 0, .int .i64 0, .int .i64 te, .string (strL nm), .slice wa wl.length wc] 57 (0, 0)) → Calls Tryd.prog 18 #[.pointer (some ⟨tb, 0, none⟩), .int .i64 (-1), .agg #[.slice (some ⟨G, 0, none⟩) 2 2]] W fun e w' => ∃ A' cc, e = .returned (.tuple #[.slice A' D2.length cc, .int .i64 0]) ∧ D2.length ≤ cc ∧ IntsAt w' A' D2.length D2 ∧ (∀ ad, A' = some ad → W.heap.size ≤ ad.block) ∧ Below W.heap.size W w') := Lib.hid fun W G hW hG => by
          have hsa := (StepAt.axis HST.out 0 (by unfold W64; omega)).turn (HBW.out W hW) fun _ _ => XAt.turn (HBW.out W hW) (Nat.le_refl _)
          have hsb : StepAt (XAt f) W (.mk 2 3 [] []) [.int .i64 2, .int .i64 3, .string ⟨#[]⟩, .slice none 0 0] := ⟨none, 0, rfl, Nat.le_refl _, by unfold W64; decide, w64_3, Nat.zero_le _, Nat.zero_le _, RowP.nil _ _ _ _⟩
          have h := HFR.out (-1) (some ⟨G, 0, none⟩) 2 2 [.mk 2 3 [] [], .mk 0 te nm wl] W (HBB.out W hW).1 (HBB.out W hW).2 (by omega) (by omega) (check_of (by simp) fun s hs => by
            simp only [List.mem_cons, List.not_mem_nil, or_false] at hs
            rcases hs with rfl | rfl
            · exact ⟨rfl, Nat.zero_le _⟩
            · exact ⟨good_axis 0 (by decide) HGS.out.1, HGS.out.2⟩) (ss_two (cs := [.int .i64 2, .int .i64 3, .string ⟨#[]⟩, .slice none 0 0]) hG rfl rfl hsb hsa) rfl (by decide)
          rw [hD2] at h; exact h
        generalize strL nm = nmv at *
        generalize wl.length = wn at *
        clear hD hD2
        go_wp2_with fail
        (with_reducible refine HINX.out.mono ?_)
        rintro e w10 ⟨rfl, hb⟩
        have HB10 := Lib.hid (HJ.out.1.trans (hb.mono HJ.out.1.size))
        have k10 := HKS.out w10 (HBB.out _ HB10.out).1
        obtain ⟨g0, g1, g2, g3⟩ := HSC.out w10 (HBW.out _ HB10.out)
        clear hb
        go_wp2_with fail
        refine calls_alloc fun w11 hb11 hh11 => ?_
        rw [World.size_alloc] at hh11
        obtain ⟨P, hP⟩ : ∃ P, w10.heap.size = P := ⟨_, rfl⟩
        have HP : Hid (w6.heap.size ≤ P) := Lib.hid (by rw [← hP]; exact HB10.out.size)
        have hv0 : Below w6.heap.size w6 (w10.alloc (.cells #[.int .i64 2, .int .i64 te, .string nmv, .slice wa wn wc] 57)) := HB10.out.alloc HB10.out.size _
        have HB11 : Hid (Below w6.heap.size w6 w11 ∧ StpB w11 P 2 te nmv wa wn wc ∧ P < w11.heap.size) := Lib.hid (by
          have h2 : P < (w10.alloc (.cells #[.int .i64 2, .int .i64 te, .string nmv, .slice wa wn wc] 57)).heap.size := by rw [World.size_alloc, hP]; exact Nat.lt_succ_self _
          refine ⟨hv0.trans (hb11.mono hv0.size), ?_, Nat.lt_of_lt_of_le h2 hb11.size⟩
          exact (hb11.block P h2).trans (by rw [← hP]; exact heap_alloc_new w10 _))
        have HFC := Lib.hid (HF1.out 2 w11 _ (by decide) HB11.out.1 hh11)
        clear hb11 hh11 hv0 g0 g1 g2 g3
        rw [hP] at HFC ⊢
        clear hP
        (with_reducible refine HFC.out.mono ?_)
        rintro e w12 ⟨A12, c12, rfl, hl12, hi12, hn12, hb12⟩
        have HI2 : Hid (IntsAt w12 A12 (D 2).length (D 2) ∧ (D 2).length ≤ c12 ∧ ∀ ad, A12 = some ad → ad.block ≠ P) := Lib.hid ⟨hi12, hl12, fun ad h => by have := hn12 ad h; have := HB11.out.2.2; omega⟩
        have HB12 : Hid (Below w6.heap.size w6 w12 ∧ StpB w12 P 2 te nmv wa wn wc ∧ P < w12.heap.size) := Lib.hid ⟨HB11.out.1.trans (hb12.mono HB11.out.1.size), HB11.out.2.1.below hb12, Nat.lt_of_lt_of_le HB11.out.2.2 hb12.size⟩
        clear hi12 hl12 hn12 hb12
        obtain ⟨g0, g1, g2, g3, g4⟩ := StpB.cells HB12.out.2.1
        obtain ⟨g5, g6, g7, g8, g9⟩ := StpB.cells (StpB.set HB12.out.2.1 3)
        have HBs : Hid (Below w6.heap.size w6 (w12.setCell ⟨P, 0, none⟩ (.int .i64 3)) ∧ StpB (w12.setCell ⟨P, 0, none⟩ (.int .i64 3)) P 3 te nmv wa wn wc ∧ P < (w12.setCell ⟨P, 0, none⟩ (.int .i64 3)).heap.size) := Lib.hid ⟨HB12.out.1.setCell (p := ⟨P, 0, none⟩) HP.out _, StpB.set HB12.out.2.1 3, by rw [World.size_setCell]; exact HB12.out.2.2⟩
        have HI2s := Lib.hid (And.intro (IntsAt.far HI2.out.1 (P := P) (j := 0) HI2.out.2.2 (.int .i64 3)) HI2.out.2)
        have hsz : (w12.setCell ⟨P, 0, none⟩ (.int .i64 3)).heap.size = w12.heap.size := World.size_setCell ..
        have HSZ := Lib.hid hsz
        clear hsz
        go_wp2_with fail
        generalize w12.setCell ⟨P, 0, none⟩ (.int .i64 3) = ws at *
        refine calls_alloc fun w13 hb hh => ?_
        rw [HSZ.out] at hh
        have HBn : Hid (Below w6.heap.size w6 w13 ∧ StpB w13 P 3 te nmv wa wn wc ∧ P < w13.heap.size) := Lib.hid ⟨HBs.out.1.trans (hb.mono HBs.out.1.size), HBs.out.2.1.below hb, Nat.lt_of_lt_of_le HBs.out.2.2 hb.size⟩
        have HFC3 := Lib.hid (HF1.out 3 w13 _ (by decide) HBn.out.1 hh)
        have HI2n := Lib.hid (And.intro (HI2s.out.1.below hb) HI2s.out.2)
        clear hb hh g0 g1 g2 g3 g4 g5 g6 g7 g8 g9
        (with_reducible refine HFC3.out.mono ?_)
        rintro e w14 ⟨A14, c14, rfl, hl, hi, hn, hb⟩
        have HI3 : Hid (IntsAt w14 A14 (D 3).length (D 3) ∧ (D 3).length ≤ c14 ∧ ∀ ad, A14 = some ad → ad.block ≠ P) := Lib.hid ⟨hi, hl, fun ad h => by have := hn ad h; have := HBn.out.2.2; omega⟩
        have HB14 : Hid (Below w6.heap.size w6 w14 ∧ StpB w14 P 3 te nmv wa wn wc ∧ P < w14.heap.size) := Lib.hid ⟨HBn.out.1.trans (hb.mono HBn.out.1.size), HBn.out.2.1.below hb, Nat.lt_of_lt_of_le HBn.out.2.2 hb.size⟩
        have HI2 := Lib.hid (And.intro (HI2n.out.1.below hb) HI2n.out.2)
        clear hi hl hn hb HI2s HI2n HBs HBn HSZ
        obtain ⟨g0, g1, g2, g3, g4⟩ := StpB.cells HB14.out.2.1
        obtain ⟨g5, g6, g7, g8, g9⟩ := StpB.cells (StpB.set HB14.out.2.1 1)
        have HBs : Hid (Below w6.heap.size w6 (w14.setCell ⟨P, 0, none⟩ (.int .i64 1)) ∧ StpB (w14.setCell ⟨P, 0, none⟩ (.int .i64 1)) P 1 te nmv wa wn wc ∧ P < (w14.setCell ⟨P, 0, none⟩ (.int .i64 1)).heap.size) := Lib.hid ⟨HB14.out.1.setCell (p := ⟨P, 0, none⟩) HP.out _, StpB.set HB14.out.2.1 1, by rw [World.size_setCell]; exact HB14.out.2.2⟩
        have HI2s := Lib.hid (And.intro (IntsAt.far HI2.out.1 (P := P) (j := 0) HI2.out.2.2 (.int .i64 1)) HI2.out.2)
        have HI3s := Lib.hid (And.intro (IntsAt.far HI3.out.1 (P := P) (j := 0) HI3.out.2.2 (.int .i64 1)) HI3.out.2)
        have hsz : (w14.setCell ⟨P, 0, none⟩ (.int .i64 1)).heap.size = w14.heap.size := World.size_setCell ..
        have HSZ := Lib.hid hsz
        clear hsz
        go_wp2_with fail
        generalize w14.setCell ⟨P, 0, none⟩ (.int .i64 1) = ws at *
        refine calls_alloc fun w15 hb hh => ?_
        rw [HSZ.out] at hh
        have HBn : Hid (Below w6.heap.size w6 w15 ∧ StpB w15 P 1 te nmv wa wn wc ∧ P < w15.heap.size) := Lib.hid ⟨HBs.out.1.trans (hb.mono HBs.out.1.size), HBs.out.2.1.below hb, Nat.lt_of_lt_of_le HBs.out.2.2 hb.size⟩
        have HFC1 := Lib.hid (HF1.out 1 w15 _ (by decide) HBn.out.1 hh)
        have HI2n := Lib.hid (And.intro (HI2s.out.1.below hb) HI2s.out.2)
        have HI3n := Lib.hid (And.intro (HI3s.out.1.below hb) HI3s.out.2)
        clear hb hh g0 g1 g2 g3 g4 g5 g6 g7 g8 g9
        (with_reducible refine HFC1.out.mono ?_)
        rintro e w16 ⟨A16, c16, rfl, hl, hi, hn, hb⟩
        have HI1 : Hid (IntsAt w16 A16 (D 1).length (D 1) ∧ (D 1).length ≤ c16 ∧ ∀ ad, A16 = some ad → ad.block ≠ P) := Lib.hid ⟨hi, hl, fun ad h => by have := hn ad h; have := HBn.out.2.2; omega⟩
        have HB16 : Hid (Below w6.heap.size w6 w16 ∧ StpB w16 P 1 te nmv wa wn wc ∧ P < w16.heap.size) := Lib.hid ⟨HBn.out.1.trans (hb.mono HBn.out.1.size), HBn.out.2.1.below hb, Nat.lt_of_lt_of_le HBn.out.2.2 hb.size⟩
        have HI2 := Lib.hid (And.intro (HI2n.out.1.below hb) HI2n.out.2)
        have HI3 := Lib.hid (And.intro (HI3n.out.1.below hb) HI3n.out.2)
        clear hi hl hn hb HI2s HI2n HI3s HI3n HBs HBn HSZ
        obtain ⟨g0, g1, g2, g3, g4⟩ := StpB.cells HB16.out.2.1
        obtain ⟨g5, g6, g7, g8, g9⟩ := StpB.cells (StpB.set HB16.out.2.1 0)
        have HBs : Hid (Below w6.heap.size w6 (w16.setCell ⟨P, 0, none⟩ (.int .i64 0))) := Lib.hid (HB16.out.1.setCell (p := ⟨P, 0, none⟩) HP.out _)
        have HI2s := Lib.hid (And.intro (IntsAt.far HI2.out.1 (P := P) (j := 0) HI2.out.2.2 (.int .i64 0)) HI2.out.2.1)
        have HI3s := Lib.hid (And.intro (IntsAt.far HI3.out.1 (P := P) (j := 0) HI3.out.2.2 (.int .i64 0)) HI3.out.2.1)
        have HI1s := Lib.hid (And.intro (IntsAt.far HI1.out.1 (P := P) (j := 0) HI1.out.2.2 (.int .i64 0)) HI1.out.2.1)
        have hsz : (w16.setCell ⟨P, 0, none⟩ (.int .i64 0)).heap.size = w16.heap.size := World.size_setCell ..
        have HSZ := Lib.hid hsz
        clear hsz
        go_wp2_with fail
        generalize w16.setCell ⟨P, 0, none⟩ (.int .i64 0) = ws at *
        refine calls_alloc fun w17 hb hh => ?_
        rw [HSZ.out] at hh
        have HBn : Hid (Below w6.heap.size w6 w17) := Lib.hid (HBs.out.trans (hb.mono HBs.out.size))
        have HFC0 := Lib.hid (HF2.out w17 _ HBn.out hh)
        have HI2n := Lib.hid (And.intro (HI2s.out.1.below hb) HI2s.out.2)
        have HI3n := Lib.hid (And.intro (HI3s.out.1.below hb) HI3s.out.2)
        have HI1n := Lib.hid (And.intro (HI1s.out.1.below hb) HI1s.out.2)
        clear hb hh g0 g1 g2 g3 g4 g5 g6 g7 g8 g9
        (with_reducible refine HFC0.out.mono ?_)
        rintro e w18 ⟨A18, c18, rfl, hl, hi, hn, hb⟩
        have HI0 : Hid (IntsAt w18 A18 D2.length D2) := Lib.hid hi
        have HB18 : Hid (Below w6.heap.size w6 w18) := Lib.hid (HBn.out.trans (hb.mono HBn.out.size))
        have HI2e := Lib.hid (And.intro (HI2n.out.1.below hb) HI2n.out.2)
        have HI3e := Lib.hid (And.intro (HI3n.out.1.below hb) HI3n.out.2)
        have HI1e := Lib.hid (And.intro (HI1n.out.1.below hb) HI1n.out.2)
        have HUN := Lib.hid (union_any A14 A16 (D 3).length (D 1).length c14 c16 (D 3) (D 1) w18 HI3e.out.1 HI1e.out.1 (Nat.le_trans (HDLN.out 3) (by decide)) (Nat.le_trans (HDLN.out 1) (by decide)) HI3e.out.2)
        rw [← HDU.out.1] at HUN
        have HN1 : Hid (∀ (A : Option Addr) (cc : Nat) W, Below w18.heap.size w18 W → IntsAt W A (D 2).length (D 2) → Calls Tryd.prog 16 #[.slice A12 (D 2).length c12, .slice A (D 2).length cc] W fun e w' => e = .returned (.bool true) ∧ Below W.heap.size W w') := Lib.hid fun A cc W hW hA => by
          have h := lawInts_any A12 A (D 2).length (D 2).length c12 cc (D 2) (D 2) W (HI2e.out.1.below hW) hA (Nat.le_trans (HDLN.out 2) (by decide))
          rw [decide_eq_true rfl] at h
          exact h
        have HN2 : Hid (∀ W, Below w18.heap.size w18 W → Calls Tryd.prog 16 #[.slice A18 D2.length c18, .slice A16 (D 1).length c16] W fun e w' => e = .returned (.bool true) ∧ Below W.heap.size W w') := Lib.hid fun W hW => by
          have h := lawInts_any A18 A16 D2.length (D 1).length c18 c16 D2 (D 1) W (HI0.out.below hW) (HI1e.out.1.below hW) (Nat.le_trans HD2L.out (by decide))
          rw [decide_eq_true HDU.out.2] at h
          exact h
        clear hi hl hn hb HI2s HI2n HI3s HI3n HI1s HI1n HBs HBn HSZ HI2 HI3 HI1
        generalize (D 2).length = d2 at *
        generalize (D 3).length = d3 at *
        generalize (D 1).length = d1 at *
        generalize D2.length = d0 at *
        go_wp2_with fail
        (with_reducible refine HUN.out.mono ?_)
        rintro e w19 ⟨A19, c19, rfl, hl, hi, hb⟩
        have HB19 := Lib.hid hb
        have HNX1 := Lib.hid (HN1.out A19 c19 w19 hb hi)
        clear hl hi hb
        go_wp2_with fail
        (with_reducible refine HNX1.out.mono ?_)
        rintro e w20 ⟨rfl, hb⟩
        have HB20 := Lib.hid (HB19.out.trans (hb.mono HB19.out.size))
        have HNX2 := Lib.hid (HN2.out w20 HB20.out)
        clear hb
        go_wp2_with fail
        (with_reducible refine HNX2.out.mono ?_)
        rintro e w21 ⟨rfl, hb⟩
        have HB21 := Lib.hid (HBW.out _ (HB18.out.trans ((HB20.out.trans (hb.mono HB20.out.size)).mono HB18.out.size)))
        clear hb
        go_wp2_with fail
        go_ret
        exact ⟨rfl, HB21.out⟩
end Go.Proofs.YtekoflcioooncaaDoor

/-
  MeanSteps, where what it reads is of bulk at most 1048576: for every such argument the law returns true, and it reads as before: the row's statement and its card. Condition: the bulk bound of the statement itself.
-/
namespace Go.Proofs.YtekoflcioooncaaDoor.meanSteps
open Go.ChangeShapes Go.WideShapes Go.ChangeAt Go.RowKit
open Go.ChangeMaps (open_string shut_string)

theorem at_laid {W : World} (hL : laidMetH Tryd.prog Rows.meanStepsUptoRow.laid W) : RangesAt W 2 ∧ Lib.Utf8Tabs 0 1 W := at_laid3 hL

set_option maxRecDepth 100000 in
theorem contract (H : Type) (enc : TypeId × Value → H) (W : World) (base : Nat) (args : Array Value) (ds gs : List (DataW H)) (before : List MemPlace)
    (hval : ∀ (j : Nat) t v, Tryd.f5.params[j]? = some t → args[j]? = some v → Value.okWide Tryd.prog W .any base t v)
    (hW : DataW.Whole enc Tryd.prog Tryd.f5.params.toList Rows.meanStepsSpec.vars false W args.toList ds gs before) (hk : Rows.uptoSmall H (ds ++ gs) = true) (hL : laidMetH Tryd.prog Rows.meanStepsUptoRow.laid W) :
    Calls Tryd.prog 5 args W fun e W' => ∃ v, e = .returned v ∧ Rows.meanStepsSpec.post enc Tryd.prog Tryd.f5 false true false false W args v W' := by
  have hW' := hW
  obtain ⟨p, q, hA0, hV, rfl, hfz, hnd⟩ := hW
  have hA : DataW.TrodAll enc Tryd.prog W 0 (fun _ => true) true Tryd.f5.params.toList args.toList ds p := hA0
  rw [Tryd.params5] at hA hval
  obtain ⟨v0, vs0, d0, ds0, p0, q0, hargs, rfl, rfl, h0, r0⟩ := trodAll_cons hA
  obtain ⟨v1, vs1, d1, ds1, p1, q1, rfl, rfl, rfl, h1, r1⟩ := trodAll_cons r0
  obtain ⟨v2, vs2, d2, ds2, p2, q2, rfl, rfl, rfl, h2, r2⟩ := trodAll_cons r1
  obtain ⟨rfl, rfl, rfl⟩ := trodAll_nil r2
  obtain rfl : args = #[v0, v1, v2] := by cases args; simp_all
  obtain ⟨rfl, rfl⟩ := trodVars_none hV
  obtain ⟨a0, n0, c0, rfl⟩ := okWide_slice Tryd.underlying22 (hval 0 22 v0 rfl rfl)
  have hO0 : EvsAt W a0 n0 (evsOf d0) ∧ wtEs (evsOf d0) ≤ Rows.uptoBulk d0 := by
    obtain ⟨fuel, hf⟩ := h0
    obtain ⟨a9, n9, c9, hcs, hnc, hO, hw⟩ := evs_read hf
    simp [Value.cells] at hcs
    obtain ⟨rfl, rfl, rfl⟩ := hcs
    exact ⟨hO, hw⟩
  obtain ⟨ca1, rfl, hsz1⟩ := okWide_struct Tryd.underlying25 (hval 1 25 v1 rfl rfl)
  obtain ⟨cl1, rfl⟩ : ∃ l : List Value, ca1 = l.toArray := ⟨ca1.toList, by simp⟩
  have hO1 : Rows.uptoBulk d1 ≤ 1048576 → ∃ a c, ∃ l : List PS, cl1 = [.slice a l.length c] ∧ l.length ≤ c ∧ l.length ≤ 1048576 ∧ SsAt 1048576 W a l := fun hbb => by
    obtain ⟨fuel, hf⟩ := h1
    exact path_open (fun m es y hy hb => expr_open 1048576 m es y hy hb (Nat.le_refl _)) hf (Nat.le_trans hbb (by decide)) hbb
  obtain ⟨z2, rfl, e2, f2, hw2⟩ := open_int Tryd.underlying3 (hval 2 3 v2 rfl rfl) h2
  clear hA0
  simp only [List.append_nil] at hW' hk
  have hb : Rows.uptoBulkAll [d0, d1, d2] ≤ 1048576 := of_decide_eq_true hk
  simp only [Rows.uptoBulkAll] at hb
  have hbe0 : Rows.uptoBulk d0 ≤ 1048576 := by omega
  have hbe1 : Rows.uptoBulk d1 ≤ 1048576 := by omega
  have hlt0 : ∀ x ∈ p0, x.block < W.heap.size := fun x hx => hW'.lt x (by simp [hx])
  have hlt1 : ∀ x ∈ p1, x.block < W.heap.size := fun x hx => hW'.lt x (by simp [hx])
  have hlt2 : ∀ x ∈ p2, x.block < W.heap.size := fun x hx => hW'.lt x (by simp [hx])
  obtain ⟨a1, c1, l1, rfl, hc1, hn1, hs1⟩ := hO1 hbe1
  obtain ⟨hev, hwt⟩ := hO0
  refine (meanSteps_of (f := 1048576) (by decide) a0 n0 c0 (evsOf d0) a1 c1 l1 z2 W ⟨(at_laid hL).1, (at_laid hL).2⟩ hev (Nat.le_trans hwt hbe0) hs1 hc1 hn1 (w64_of hw2).2).mono fun e W' ⟨he, bel⟩ => ?_
  subst he
  refine ⟨_, rfl, _, _, _, [], p0 ++ (p1 ++ (p2 ++ [])), [], hW', ?_, ?_, rfl, bel.frame _, fun h => by cases h⟩
  · exact trodAll_cons_mk (shut_bool Tryd.underlying4 _) trodAll_mk0
  · exact trodAll_cons_mk (Below.trod laidOut (by kernel_rfl) (of_decide_eq_true (by kernel_rfl)) h0 bel hlt0) (trodAll_cons_mk (Below.trod laidOut (by kernel_rfl) (of_decide_eq_true (by kernel_rfl)) h1 bel hlt1) (trodAll_cons_mk (Below.trod laidOut (by kernel_rfl) (of_decide_eq_true (by kernel_rfl)) h2 bel hlt2) trodAll_mk0))

theorem reads (os : Os) {H : Type} (enc : TypeId × Value → H) : ∃ places, DataW.whole enc Tryd.prog ((laidWorld3 os).forCall (fun _ _ => 0) ⟨#[], #[.slice none 0 0, .agg #[.slice none 0 0], .int .i64 0], []⟩).memory Tryd.f5.params.toList Rows.meanStepsSpec.vars false (#[.slice none 0 0, .agg #[.slice none 0 0], .int .i64 0] : Array Value).toList 8 = some ([.nil, .agg [.nil], .lit (.int .i64 0)], [], places) :=
  ⟨[], by kernel_rfl⟩

set_option maxRecDepth 100000 in
theorem lifted (os : Os) (started : os.Started) (H : Type) (enc : TypeId × Value → H) (F : Stop.Interp) :
    ReturnsInHanded {} Tryd.checked os 5 .any ((Rows.OpenSpec.upto Rows.meanStepsSpec).preRow enc Tryd.prog Tryd.f5 Rows.meanStepsUptoRow.domain false Rows.meanStepsUptoRow.laid) (((Rows.OpenSpec.upto Rows.meanStepsSpec).at F).post enc Tryd.prog Tryd.f5 false true false false) := by
  obtain ⟨places, hx⟩ := reads os enc
  refine returnsInHanded_of_row (C := Tryd.checked) (s := Rows.OpenSpec.upto Rows.meanStepsSpec) own' started (by kernel_rfl) Tryd.func5
    (witness_row_atRef (enc := enc) (C := Tryd.checked) false (laidWorld3 os) #[.slice none 0 0, .agg #[.slice none 0 0], .int .i64 0] rfl (by kernel_rfl) (by kernel_rfl) (by kernel_rfl)
      (OpenSpec.preRow_of_cond 8 hx (by kernel_rfl) (fun k hk => by cases hk; kernel_rfl) (by kernel_rfl) (laid_met3 os _))) ?_
  intro W base args ds gs before hval hW _ hcond _ hL _ _
  exact contract H enc W base args ds gs before hval hW (hcond _ rfl) hL

theorem proved : Rows.MeanStepsUptoSaid :=
  OpenClaim.holds_of_cond 5 Tryd.f5 rfl rfl rfl rfl rfl rfl rfl ⟨rfl, rfl, rfl, rfl, rfl⟩ rfl rfl rfl rfl rfl (by kernel_rfl) Tryd.func5 (by kernel_rfl)
    (of_decide_eq_true (by kernel_rfl)) (by unfold Func.isWrapper; first | (rw [if_pos (by decide +kernel)]; kernel_rfl) | (rw [if_neg (by decide +kernel)]; exact ⟨rfl, rfl⟩))
    (fun os started H enc _ F => by rw [OpenClaim.pre_eq_preRow]; exact lifted os started H enc F)

theorem plain (f : FuncId) (fn : Func) (hf : Tryd.pinned.checked.prog.funcNamed "gimlet/gimletlaw12.MeanSteps" = some f) (hfn : Tryd.pinned.checked.prog.funcs[f]? = some fn) :
    false = Tryd.pinned.checked.prog.looks [] ∧ ∀ (j : Nat) t, fn.params[j]? = some t → Tryd.pinned.checked.prog.wantsStandIn t = false := by
  obtain rfl : f = 5 := Option.some.inj ((show Tryd.prog.funcNamed "gimlet/gimletlaw12.MeanSteps" = some 5 by kernel_rfl).symm.trans hf) |>.symm
  obtain rfl : fn = Tryd.f5 := (Option.some.inj (Tryd.func5.symm.trans hfn)).symm
  refine ⟨by kernel_rfl, fun j t ht => ?_⟩
  rw [Tryd.params5] at ht
  have hm := Array.mem_of_getElem? ht
  obtain rfl | rfl | rfl : t = 22 ∨ t = 25 ∨ t = 3 := by simpa using hm
  · exact (show Tryd.prog.wantsStandIn 22 = false by kernel_rfl)
  · exact (show Tryd.prog.wantsStandIn 25 = false by kernel_rfl)
  · exact (show Tryd.prog.wantsStandIn 3 = false by kernel_rfl)

theorem card : Rows.MeanStepsUptoCardSaid :=
  Claim7.holds_tied_plain_at .later [] _ _ _ _ proved (fun _ h => by cases h) (by kernel_rfl) (fun _ h => by cases h) meanStepsUpto_row_tie rfl ⟨rfl, rfl⟩ (by kernel_rfl) rfl plain (by kernel_rfl)
#print axioms card
end Go.Proofs.YtekoflcioooncaaDoor.meanSteps
