/-
  mean.refuses, mean.From.
-/
import Derived.Test.YtekoflcioooncaaDoorMxZ
import Derived.Test.YtekoflcioooncaaDoorMxT
import Derived.Test.YtekoflcioooncaaDoorMxZA
namespace Go.Proofs.YtekoflcioooncaaDoor
open Go.RowKit

def refusesN (N f : Nat) (v : Int) (ss : List PS) : Int := if v < -1 ∨ (N : Int) ≤ v then 2 else checkN f ss

set_option maxRecDepth 100000 in
set_option maxHeartbeats 4000000 in
theorem refuses_any {f : Nat} (hf : f ≤ 1048576) {tb : Nat} {evs : List Ev} (v : Int) (a : Option Addr) (c : Nat) (ss : List PS) (w : World) (hq : TQ w tb evs) (hE : EnvT w) (h : SsAt f w a ss) (hn : ss.length ≤ 1048576) :
    Calls Tryd.prog 34 #[.pointer (some ⟨tb, 0, none⟩), .int .i64 v, .agg #[.slice a ss.length c]] w fun e w' => e = .returned (.int .i64 (refusesN (nodesB evs).length f v ss)) ∧ Below w.heap.size w w' := by
  have HB0 : Hid (Below w.heap.size w (w.alloc (.cells #[.slice a ss.length c] 25))) := Lib.hid ((Below.refl _ _).alloc (Nat.le_refl _) _)
  have HCK : Hid (∀ W, Below w.heap.size w W → Calls Tryd.prog 14 #[.agg #[.slice a ss.length c]] W fun e w' => e = .returned (.int .i64 (checkN f ss)) ∧ Below W.heap.size W w') := Lib.hid fun W hW => check_any hf a c ss W (hE.below hW) (SsAt.below h hW) hn
  have HLEN : Hid (∀ W, Below w.heap.size w W → Calls Tryd.prog 12 #[.pointer (some ⟨tb, 0, none⟩)] W fun e w' => e = .returned (.int .i64 ((nodesB evs).length : Nat)) ∧ w' = W) := Lib.hid fun W hW => by
    obtain ⟨⟨B, ht⟩, hwh, _⟩ := hq.below hW
    exact len_any (treeLast ht hwh)
  obtain ⟨R, hR⟩ : ∃ R, refusesN (nodesB evs).length f v ss = R := ⟨_, rfl⟩
  rw [hR]
  have HR := Lib.hid hR
  clear hR hq hE h
  unfold refusesN at HR
  generalize checkN f ss = ck at *
  generalize (nodesB evs).length = N at *
  generalize ss.length = n at *
  by_cases h1 : v < -1
  · have HF : Hid (2 = R) := Lib.hid (by rw [← HR.out, if_pos (.inl h1)])
    go_enter Tryd.func34, Tryd.ntmps34
    go_wp2_with fail
    go_ret
    exact ⟨ret_int HF.out, HB0.out⟩
  · have h1' : -1 ≤ v := by omega
    clear h1
    have HLEN0 := Lib.hid (HLEN.out _ HB0.out)
    by_cases h2 : (N : Int) ≤ v
    · have HF : Hid (2 = R) := Lib.hid (by rw [← HR.out, if_pos (.inr h2)])
      go_enter Tryd.func34, Tryd.ntmps34
      go_wp2_with fail
      (with_reducible refine HLEN0.out.mono ?_)
      rintro e w2 ⟨rfl, rfl⟩
      go_wp2_with fail
      go_ret
      exact ⟨ret_int HF.out, HB0.out⟩
    · have h2' : v < (N : Int) := by omega
      clear h2
      have HF : Hid (ck = R) := Lib.hid (by rw [← HR.out, if_neg (by omega)])
      have HCK0 := Lib.hid (HCK.out _ HB0.out)
      go_enter Tryd.func34, Tryd.ntmps34
      go_wp2_with fail
      (with_reducible refine HLEN0.out.mono ?_)
      rintro e w2 ⟨rfl, rfl⟩
      go_wp2_with fail
      (with_reducible refine HCK0.out.mono ?_)
      rintro e w3 ⟨rfl, hb3⟩
      have HB3 := Lib.hid (HB0.out.trans (hb3.mono HB0.out.size))
      clear hb3
      go_wp2_with fail
      go_ret
      exact ⟨ret_int HF.out, HB3.out⟩
set_option maxRecDepth 100000 in
set_option maxHeartbeats 4000000 in
theorem mrefuses_nil (v : Int) (a : Option Addr) (n c : Nat) (w : World) :
    Calls Tryd.prog 34 #[.pointer none, .int .i64 v, .agg #[.slice a n c]] w fun e w' => e = .returned (.int .i64 1) ∧ Below w.heap.size w w' := by
  have HB0 : Hid (Below w.heap.size w (w.alloc (.cells #[.slice a n c] 25))) := Lib.hid ((Below.refl _ _).alloc (Nat.le_refl _) _)
  go_enter Tryd.func34, Tryd.ntmps34
  go_wp2_with fail
  go_ret
  exact ⟨rfl, HB0.out⟩

def trueTo (fr : List Bool) (j : Nat) : List Int := (List.range j).filterMap fun (k : Nat) => if fr[k]?.getD false then some ((k : Int) - 1) else none
theorem trueTo_succ (fr : List Bool) (j : Nat) : trueTo fr (j + 1) = trueTo fr j ++ (if fr[j]?.getD false then [(j : Int) - 1] else []) := by
  unfold trueTo
  rw [List.range_succ, List.filterMap_append]
  cases h : fr[j]?.getD false <;> simp [h]
theorem trueTo_len (fr : List Bool) (j : Nat) : (trueTo fr j).length ≤ j := by
  unfold trueTo
  have := List.length_filterMap_le (fun (k : Nat) => if fr[k]?.getD false then some ((k : Int) - 1) else none) (List.range j)
  rwa [List.length_range] at this
def fromN (T : PT) (f : Nat) (v : Int) (ss : List PS) : List Int := if refusesN T.N f v ss = 0 then fromP T f v ss else []
theorem checkN_good {f : Nat} {ss : List PS} (h : checkN f ss = 0) : goodPB (goodXB f) ss = true := by
  unfold checkN checkB at h
  cases hg : goodPB (goodXB f) ss with
  | true => rfl
  | false => rw [hg] at h; simp at h
theorem goodPB_wher {f : Nat} {ss : List PS} (hgp : goodPB (goodXB f) ss = true) : ∀ s ∈ ss, s.wher.all (goodXB f) = true := fun s hs => by
  obtain ⟨i, hi, rfl⟩ := List.getElem_of_mem hs
  have := goodPB_at hgp i hi
  unfold goodSB at this
  rw [Bool.and_eq_true] at this
  exact this.2

set_option maxRecDepth 100000 in
set_option maxHeartbeats 8000000 in
theorem from_any {f : Nat} (hf : f ≤ 1048576) {tb : Nat} {evs : List Ev} (HST : StepX tb evs f) (v : Int) (a : Option Addr) (c : Nat) (ss : List PS) (w : World) (hq : TQ w tb evs) (hE : EnvT w) (h : SsAt f w a ss) (hml : ss.length ≤ 1048576) :
    Calls Tryd.prog 18 #[.pointer (some ⟨tb, 0, none⟩), .int .i64 v, .agg #[.slice a ss.length c]] w fun e w' => ∃ A cc, e = .returned (.tuple #[.slice A (fromN (treePT evs) f v ss).length cc, .int .i64 (refusesN (nodesB evs).length f v ss)]) ∧ (fromN (treePT evs) f v ss).length ≤ cc ∧ IntsAt w' A (fromN (treePT evs) f v ss).length (fromN (treePT evs) f v ss) ∧ Below w.heap.size w w' := by
  obtain ⟨i0, hi0, hz0, hz1, hz2⟩ := info_parts infoBool
  obtain ⟨j0, hj, hjz0, hjz1, hjz2⟩ := info_parts infoInt
  obtain ⟨W0, hW0⟩ : ∃ W0, W0 = w.alloc (.cells #[.slice a ss.length c] 25) := ⟨_, rfl⟩
  have hb0 : Below w.heap.size w W0 := by rw [hW0]; exact (Below.refl _ _).alloc (Nat.le_refl _) _
  have hsz0 : W0.heap.size = w.heap.size + 1 := by rw [hW0]; simp
  have hk5 : W0.heap[w.heap.size]? = some (.cells #[.slice a ss.length c] 25 (0, 0)) := by rw [hW0]; exact heap_alloc_new w _
  have HKS : Hid (∀ W, Below (w.heap.size + 1) W0 W → W.cell? ⟨w.heap.size, 0, none⟩ = some (.slice a ss.length c)) := Lib.hid fun W hW => by
    rw [cell_heap ((hW.block w.heap.size (by omega)).trans hk5)]; rfl
  have HW0 : Hid (Below w.heap.size w W0 ∧ W0.heap.size = w.heap.size + 1) := Lib.hid ⟨hb0, hsz0⟩
  have HRF := Lib.hid (refuses_any hf v a c ss W0 (hq.below hb0) (hE.below hb0) (SsAt.below h hb0) hml)
  by_cases hr : refusesN (nodesB evs).length f v ss = 0
  rotate_left
  · have e0 : fromN (treePT evs) f v ss = [] := if_neg hr
    rw [e0]
    have hr' : (refusesN (nodesB evs).length f v ss != 0) = true := by simp [hr]
    have hr'' : (refusesN (nodesB evs).length f v ss == 0) = false := by simp [hr]
    generalize refusesN (nodesB evs).length f v ss = rf at *
    clear hb0 hsz0 hk5 hq hE h hr e0
    have HW0E := Lib.hid hW0
    clear hW0
    generalize ss.length = m at *
    go_enter Tryd.func18, Tryd.ntmps18
    go_wp2_with fail
    rw [← HW0E.out]
    have c5 := HKS.out W0 (Below.refl _ _)
    (with_reducible refine HRF.out.mono ?_)
    rintro e w2 ⟨rfl, hb2⟩
    have HB2 := Lib.hid (HW0.out.1.trans (hb2.mono HW0.out.1.size))
    clear hb2
    go_wp2_with fail
    go_ret2
    exact ⟨none, 0, rfl, Nat.le_refl _, ⟨rfl, fun i hi => absurd hi (Nat.not_lt_zero _)⟩, HB2.out⟩
  · have hfn : fromN (treePT evs) f v ss = fromP (treePT evs) f v ss := if_pos hr
    rw [hfn, hr]
    rw [hr] at HRF
    have hvv : -1 ≤ v ∧ v < ((nodesB evs).length : Int) := by
      unfold refusesN at hr
      split at hr
      · cases hr
      · omega
    have hck : checkN f ss = 0 := by
      unfold refusesN at hr
      rw [if_neg (by omega)] at hr
      exact hr
    have hgd := goodPB_wher (checkN_good hck)
    have HLEN : Hid (∀ W, Below w.heap.size w W → Calls Tryd.prog 12 #[.pointer (some ⟨tb, 0, none⟩)] W fun e w' => e = .returned (.int .i64 ((nodesB evs).length : Nat)) ∧ w' = W) := Lib.hid fun W hW => by
      obtain ⟨⟨B, ht⟩, hwh, _⟩ := hq.below hW
      exact len_any (treeLast ht hwh)
    have HSX : Hid (∀ (g n : Nat) (W : World), Below w.heap.size w W → n = (nodesB evs).length + 1 → RowB W g (oneP (nodesB evs).length v) → Calls Tryd.prog 35 #[.agg #[.pointer (some ⟨tb, 0, none⟩)], .slice (some ⟨g, 0, none⟩) n n, .slice a ss.length c] W fun e w' => ∃ g', e = .returned (.slice (some ⟨g', 0, none⟩) n n) ∧ RowB w' g' (stepsP (holdP (treePT evs) f) (treePT evs) (oneP (nodesB evs).length v) ss) ∧ Below W.heap.size W w') := Lib.hid fun g n W hW hn hr =>
      HST g n c a _ ss W (hq.below hW) hn (by rw [oneP_len]; exact hn.symm) hr (SsAt.below h hW) hml hgd
    have HONE := Lib.hid (oneP_set (nodesB evs).length v hvv.1)
    have hN : (nodesB evs).length ≤ 1024 := hq.len
    have HFL : Hid ((stepsP (holdP (treePT evs) f) (treePT evs) (oneP (nodesB evs).length v) ss).length = (nodesB evs).length + 1) := Lib.hid (by rw [stepsP_len, oneP_len])
    have HFP : Hid (fromP (treePT evs) f v ss = trueTo (stepsP (holdP (treePT evs) f) (treePT evs) (oneP (nodesB evs).length v) ss) ((nodesB evs).length + 1)) := Lib.hid (by rw [← HFL.out]; rfl)
    generalize stepsP (holdP (treePT evs) f) (treePT evs) (oneP (nodesB evs).length v) ss = fr at *
    obtain ⟨R, hR⟩ : ∃ R, fromP (treePT evs) f v ss = R := ⟨_, rfl⟩
    rw [hR]
    rw [hR] at HFP
    clear hR hfn hck hgd hr
    generalize hNN : (nodesB evs).length = N at *
    obtain ⟨n, hn⟩ : ∃ n, n = N + 1 := ⟨_, rfl⟩
    rw [← hn] at HFP
    have HNE := Lib.hid hn
    have ewN : IntKind.i64.wrap ((N : Int) + 1) = ((n : Nat) : Int) := by rw [IntWalk.i64_in _ (by omega)]; omega
    have ewv : IntKind.i64.wrap (v + 1) = v + 1 := IntWalk.i64_in _ (by omega)
    have hn2 : n ≤ 1025 := by omega
    have v1 : (0 : Int) ≤ v + 1 := by omega
    have v2 : v + 1 < (n : Int) := by omega
    have HV := Lib.hid (show (v + 1).toNat < n by omega)
    have HFN : Hid (fr.length = n) := Lib.hid (by rw [HFL.out, HNE.out])
    clear hb0 hsz0 hk5 hq hE h hn hvv hNN
    have HW0E := Lib.hid hW0
    clear hW0
    generalize ss.length = m at *
    go_enter Tryd.func18, Tryd.ntmps18
    go_wp2_with fail
    rw [← HW0E.out]
    have c5 := HKS.out W0 (Below.refl _ _)
    (with_reducible refine HRF.out.mono ?_)
    rintro e w1 ⟨rfl, hb1⟩
    have HLN := Lib.hid (HLEN.out w1 (HW0.out.1.trans (hb1.mono HW0.out.1.size)))
    have HB1 := Lib.hid hb1
    clear hb1
    go_wp2_with fail
    (with_reducible refine HLN.out.mono ?_)
    rintro e w2 ⟨rfl, rfl⟩
    have HSZ2 : Hid (w.heap.size + 1 ≤ w2.heap.size ∧ Below w.heap.size w w2 ∧ Below (w.heap.size + 1) W0 w2) := Lib.hid ⟨by have := HB1.out.size; have := HW0.out.2; omega, HW0.out.1.trans (HB1.out.mono HW0.out.1.size), HB1.out.mono (by rw [HW0.out.2]; exact Nat.le_refl _)⟩
    have HK4 : Hid (∀ w3, Below w2.heap.size w2 w3 → Below (w.heap.size + 1) W0 (w3.setCell ⟨w2.heap.size, (v + 1).toNat, none⟩ (.bool true)) ∧ Below w.heap.size w (w3.setCell ⟨w2.heap.size, (v + 1).toNat, none⟩ (.bool true))) := Lib.hid fun w3 hb3 =>
      ⟨(HSZ2.out.2.2.trans (hb3.mono HSZ2.out.1)).setCell (p := ⟨w2.heap.size, (v + 1).toNat, none⟩) HSZ2.out.1 _, (HSZ2.out.2.1.trans (hb3.mono (by have := HSZ2.out.1; omega))).setCell (p := ⟨w2.heap.size, (v + 1).toNat, none⟩) (by have := HSZ2.out.1; show _ ≤ w2.heap.size; omega) _⟩
    go_wp2_with (at_make; go_must ((refine wpList_make_full _ (by rfl) _ _ 89 (by rfl) w.heap.size 4 i0 _ 1 Tryd.underlying89 hi0 hz0 hz1 .i64 .i64 (n : Int) (n : Int) n (by rfl) (by rfl) rfl rfl (by rw [hz2]; omega) (by unfold maxLen; omega) (by have := HSZ2.out.1; omega) (fun w3 hown hgr => ?_)); (obtain ⟨HRB, hgc, hgf⟩ := made_row hown hgr (v + 1).toNat HV.out); (have c5' := HKS.out _ (HK4.out _ HRB.out.2).1); (clear hown hgr)))
    have hr4 := HRB.out.1.set (v + 1).toNat true
    have HB4 := Lib.hid (HK4.out _ HRB.out.2)
    rw [← HNE.out] at HONE
    rw [← HONE.out] at hr4
    have HSXX := Lib.hid (HSX.out w2.heap.size n _ HB4.out.2 HNE.out hr4)
    clear HRB hr4 c5
    go_wp2_with fail
    (with_reducible refine HSXX.out.mono ?_)
    rintro e w5 ⟨g', rfl, hr5, hb5⟩
    have HR5 : Hid (Below w.heap.size w w5 ∧ RowB w5 g' fr) := Lib.hid ⟨HB4.out.2.trans (hb5.mono HB4.out.2.size), hr5⟩
    clear hr5 hb5 c5' hgc hgf
    go_wp2_with fail
    go_loopw [10, 35] (fun ov jv wr => ∃ j : Nat, jv = .int .i64 j ∧ j ≤ n ∧ Hid (Below w5.heap.size w5 wr ∧ wr.ownsRow w5.heap.size 3 1 ov (trueTo fr j).length ((trueTo fr j).map (Value.int .i64)))) (fun _ jv _ => n - (intOf jv).toNat)
    case atStart => exact ⟨0, rfl, Nat.zero_le _, Lib.hid ⟨Below.refl _ _, World.ownsRow_nil _ _ _ _⟩⟩
    case round =>
      obtain ⟨j, rfl, hjn, HJ⟩ := hrel
      obtain ⟨oa, oc, rfl, _, _, _⟩ := own_slice HJ.out.2
      obtain ⟨on, hon⟩ : ∃ on, (trueTo fr j).length = on := ⟨_, rfl⟩
      have honl : on ≤ 1025 := by have := trueTo_len fr j; omega
      rw [hon] at HJ ⊢
      have HON := Lib.hid hon
      clear hon
      by_cases hj2 : j < n
      · have hjf : j < fr.length := by rw [HFN.out]; exact hj2
        have hc := (HR5.out.2.below HR5.out.2.lt HJ.out.1).cell (List.getElem?_eq_getElem hjf)
        have HSU : Hid (trueTo fr (j + 1) = trueTo fr j ++ (if fr[j] then [(j : Int) - 1] else [])) := Lib.hid (by rw [trueTo_succ, List.getElem?_eq_getElem hjf]; rfl)
        have i3 : (0 : Int) ≤ (j : Int) := by omega
        have i4 : (j : Int) < (n : Int) := by omega
        have ewj : IntKind.i64.wrap ((j : Int) + 1) = (j : Int) + 1 := IntWalk.i64_in _ (by omega)
        have ewk : IntKind.i64.wrap ((j : Int) - 1) = (j : Int) - 1 := IntWalk.i64_in _ (by omega)
        generalize fr[j] = fb at *
        cases fb with
        | false =>
          have HN8 : Hid (Below w5.heap.size w5 wr ∧ wr.ownsRow w5.heap.size 3 1 (.slice oa on oc) (trueTo fr (j + 1)).length ((trueTo fr (j + 1)).map (Value.int .i64))) := Lib.hid (by
            rw [HSU.out]
            simp only [Bool.false_eq_true, if_false, List.append_nil, HON.out]
            exact HJ.out)
          clear HSU
          go_wp2_with fail
          go_roundw
          case rel => exact ⟨j + 1, by go_num, by omega, HN8⟩
          case measure => simp [intOf]; omega
        | true =>
          go_wp2_with (at_builtin; go_must ((refine wpList_app wr (by rfl) _ _ 36 (by rfl) w5.heap.size 3 j0 (.int .i64 0) 1 8 Tryd.underlying36 hj hjz0 hjz1 hjz2 (by rfl) (by decide) (.slice oa on oc) on _ (by rfl) HJ.out.2 _ rfl 1 [.int .i64 ((j : Int) - 1)] (by rfl) (by rfl) (by intro u hu; simp only [List.mem_cons, List.not_mem_nil, or_false] at hu; subst hu; rfl) (by omega) (by decide) HJ.out.1.size (fun v7 w7 hown7 hap7 => ?_))))
          have hb7 : Below w5.heap.size w5 w7 := (HJ.out.1.alloc HJ.out.1.size _).trans (hap7.below (by have := HJ.out.1.size; simp; omega) (fun j hj' => (HJ.out.2.lt j hj').1))
          have hown8 : w7.ownsRow w5.heap.size 3 1 v7 (trueTo fr (j + 1)).length ((trueTo fr (j + 1)).map (Value.int .i64)) := by
            rw [HSU.out, if_pos rfl, List.length_append, HON.out, List.map_append]
            exact hown7
          have HN8 := Lib.hid (⟨hb7, hown8⟩ : _ ∧ _)
          clear hb7 hown8 hown7 hap7 HSU
          go_wp2_with fail
          go_roundw
          case rel => exact ⟨j + 1, by go_num, by omega, HN8⟩
          case measure => simp [intOf]; omega
      · have hk2 : j = n := by omega
        subst hk2
        have m1 : (j : Int) ≤ (j : Int) := by omega
        go_wp2_with fail
        go_ret2
        have ho := HJ.out.2
        have hn := HON.out
        rw [← HFP.out] at ho hn
        obtain ⟨a', c', e', hc', h2⟩ := own_ints ho
        cases e'
        rw [hn]
        exact ⟨_, _, rfl, hc', h2, HR5.out.1.trans (HJ.out.1.mono HR5.out.1.size)⟩
end Go.Proofs.YtekoflcioooncaaDoor

namespace Go.Proofs.YtekoflcioooncaaDoor
open Go.RowKit

def dropTop (l : List Int) : List Int := match l with | [] => [] | x :: r => if x = -1 then r else x :: r
def selectN (T : PT) (f : Nat) (ss : List PS) : List Int := dropTop (fromN T f (-1) ss)

set_option maxRecDepth 100000 in
set_option maxHeartbeats 4000000 in
theorem select_any {f : Nat} (hf : f ≤ 1048576) {tb : Nat} {evs : List Ev} (HST : StepX tb evs f) (a : Option Addr) (c : Nat) (ss : List PS) (w : World) (hq : TQ w tb evs) (hE : EnvT w) (h : SsAt f w a ss) (hml : ss.length ≤ 1048576) :
    Calls Tryd.prog 15 #[.pointer (some ⟨tb, 0, none⟩), .agg #[.slice a ss.length c]] w fun e w' => ∃ A cc, e = .returned (.tuple #[.slice A (selectN (treePT evs) f ss).length cc, .int .i64 (refusesN (nodesB evs).length f (-1) ss)]) ∧ IntsAt w' A (selectN (treePT evs) f ss).length (selectN (treePT evs) f ss) ∧ Below w.heap.size w w' := by
  have hb0 : Below w.heap.size w (w.alloc (.cells #[.slice a ss.length c] 25)) := (Below.refl _ _).alloc (Nat.le_refl _) _
  have HB0 := Lib.hid hb0
  have HF := Lib.hid (from_any hf HST (-1) a c ss _ (hq.below hb0) (hE.below hb0) (SsAt.below h hb0) hml)
  have hlen : (fromN (treePT evs) f (-1) ss).length ≤ 1025 := by
    unfold fromN
    split
    · refine Nat.le_trans (trueTo_len _ _) ?_
      rw [stepsP_len, oneP_len]
      have := hq.len
      show (nodesB evs).length + 1 ≤ 1025
      omega
    · simp
  clear hb0 hq hE h
  unfold selectN
  generalize fromN (treePT evs) f (-1) ss = l at *
  generalize refusesN (nodesB evs).length f (-1) ss = rf at *
  generalize ss.length = m at *
  go_enter Tryd.func15, Tryd.ntmps15
  go_wp2_with fail
  (with_reducible refine HF.out.mono ?_)
  rintro e w2 ⟨A, cc, rfl, hcc, hi, hb2⟩
  have HB2 := Lib.hid (HB0.out.trans (hb2.mono HB0.out.size))
  clear hb2
  cases l with
  | nil =>
    rw [show ([] : List Int).length = 0 from rfl] at *
    have HI := Lib.hid hi
    clear hi
    go_wp2_with fail
    go_ret2
    exact ⟨A, cc, rfl, HI.out, HB2.out⟩
  | cons x r =>
    obtain ⟨b, o, rfl, hb, hc⟩ := hi.at' 0 (Nat.zero_lt_succ _)
    rw [List.getElem_cons_zero, Nat.add_zero] at hc
    have HI := Lib.hid hi
    obtain ⟨n, hn⟩ : ∃ n, (x :: r).length = n := ⟨_, rfl⟩
    rw [hn] at hcc hlen HI ⊢
    have hn1 : 1 ≤ n := by rw [← hn]; simp
    have hrn : r.length = n - 1 := by rw [← hn]; simp
    have HRN := Lib.hid hrn
    have HN := Lib.hid hn
    clear hi hb hn hrn
    have n1 : (0 : Int) < (n : Int) := by omega
    by_cases hx : x = -1
    · have hxb : (x == -1) = true := by simp [hx]
      have HD : Hid (dropTop (x :: r) = r) := Lib.hid (if_pos hx)
      have n2 : (1 : Int) ≤ (n : Int) := by omega
      have hsn : ((n : Int) - 1).toNat = n - 1 := by omega
      have HIR : Hid (∀ o', (n - 1 = 0 ∨ o' = o + 1) → IntsAt w2 (some ⟨b, o', none⟩) (n - 1) r) := Lib.hid fun o' ho => ⟨HRN.out.symm, fun i hi => by
        rcases ho with h0 | rfl
        · have := HRN.out; omega
        · obtain ⟨b', o', e', h1, h2⟩ := HI.out.at' (i + 1) (by simpa using hi)
          cases e'
          exact ⟨b, o + 1, rfl, h1, by rw [Nat.add_assoc, Nat.add_comm 1 i]; exact h2⟩⟩
      clear hx
      by_cases hc1 : cc = 1
      · subst hc1
        have hn0 : n = 1 := by omega
        subst hn0
        go_wp2_with fail
        go_ret2
        rw [HD.out, HRN.out]
        exact ⟨_, _, rfl, HIR.out _ (.inl (by trivial)), HB2.out⟩
      · have hc2 : 1 < cc := by omega
        go_wp2_with fail
        go_ret2
        rw [HD.out, HRN.out]
        exact ⟨_, _, rfl, HIR.out _ (.inr rfl), HB2.out⟩
    · have hxb : (x == -1) = false := by simpa using hx
      have HD : Hid (dropTop (x :: r) = x :: r) := Lib.hid (if_neg hx)
      clear hx
      go_wp2_with fail
      go_ret2
      rw [HD.out, HN.out]
      exact ⟨_, _, rfl, HI.out, HB2.out⟩
end Go.Proofs.YtekoflcioooncaaDoor
