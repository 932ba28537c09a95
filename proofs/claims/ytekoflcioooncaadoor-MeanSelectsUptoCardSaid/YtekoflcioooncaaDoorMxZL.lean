/-
  gimletref12.From, where Holds is known.
-/
import Derived.Test.YtekoflcioooncaaDoorMxZE
import Derived.Test.YtekoflcioooncaaDoorMxZF
import Derived.Test.YtekoflcioooncaaDoorMxZK
import Derived.Deep.RegionHeld3
namespace Go.Proofs.YtekoflcioooncaaDoor
open Go.RowKit

theorem trueIdx_one (N : Nat) (v : Int) (h1 : -1 ≤ v) (h2 : v < (N : Int)) : trueIdx (oneP N v) = [v] := by
  refine ris_ext (ris_trueIdx _) (List.Pairwise.cons (fun _ h => by cases h) List.Pairwise.nil) fun x => ?_
  rw [mem_trueIdx, List.mem_singleton]
  constructor
  · rintro ⟨k, _, h, rfl⟩; have := ((oneP_at ..).1 h).2; omega
  · rintro rfl; exact ⟨(x + 1).toNat, by rw [oneP_len]; omega, (oneP_at ..).2 ⟨by omega, by omega⟩, by omega⟩
theorem markL_app (tl : List Bool) (p q : List Int) : markL tl (p ++ q) = markL (markL tl p) q := by unfold markL; rw [List.foldl_append]
theorem mark_all (T : PT) (fr : List Bool) (a : Int) (n : Nat) (hin : ∀ v x, x ∈ T.along v a → -1 ≤ x) : markL (List.replicate n false) ((trueIdx fr).flatMap fun v => T.along v a) = (List.range n).map (reachP T fr a) := by
  refine bools_ext (by rw [markL_len]; simp) fun k hk => ?_
  rw [markL_len, List.length_replicate] at hk
  have hm : ((List.range n).map (reachP T fr a))[k]? = some (reachP T fr a k) := by rw [List.getElem?_map, List.getElem?_range hk]; rfl
  rw [hm, Option.some.injEq, reachP_iff, markL_true _ _ _ (fun x hx => by
    obtain ⟨v, _, h⟩ := List.mem_flatMap.1 hx
    exact hin v x h) (by rw [List.length_replicate]; exact hk), List.mem_flatMap]
  rw [List.getElem?_replicate, if_pos hk]
  constructor
  · rintro (h | ⟨v, hv, h⟩)
    · cases h
    · obtain ⟨j, h1, h2, rfl⟩ := mem_trueIdx.1 hv
      exact ⟨j, h1, h2, h⟩
  · rintro ⟨j, h1, h2, h⟩
    exact .inr ⟨_, mem_trueIdx.2 ⟨j, h1, h2, rfl⟩, h⟩
theorem flat_take {α : Type} (F : List Int) (g : Int → List α) (i : Nat) (hi : i < F.length) : (F.take (i + 1)).flatMap g = (F.take i).flatMap g ++ g F[i] := by
  rw [List.take_succ_eq_append_getElem hi, List.flatMap_append]; simp
theorem ints_far {W : World} {A : Option Addr} {n : Nat} {l : List Int} {G : Nat} {bl : List Bool} (h : IntsAt W A n l) (hr : RowB W G bl) (hj : 0 < l.length) : ∀ ad, A = some ad → ad.block ≠ G := by
  intro ad ha
  obtain ⟨b, o, e, _, hc⟩ := h.at' 0 hj
  rw [ha] at e
  cases e
  intro e2
  have e2' : b = G := e2
  subst e2'
  have hr' : W.heap[b]? = some (.cells (boolV bl).toArray 4 (0, 0)) := hr
  rw [cell_heap hr'] at hc
  unfold boolV at hc
  simp at hc
theorem along12_any {an : Option Addr} {cn : Nat} {evs : List Ev} (v ax : Int) (w : World) (h : RQ w an evs) (h1 : -1 ≤ ax) (h2 : ax ≤ 3) :
    Calls Tryd.prog 36 #[.slice an (nodesB evs).length cn, .int .i64 v, .int .i64 ax] w fun e w' => ∃ A c, e = .returned (.slice A ((treePT evs).along v ax).length c) ∧ IntsAt w' A ((treePT evs).along v ax).length ((treePT evs).along v ax) ∧ Below w.heap.size w w' := by
  have hx := axF_of h.whole
  show Calls Tryd.prog 36 #[.slice an (nodesB evs).length cn, .int .i64 v, .int .i64 ax] w fun e w' => ∃ A c, e = .returned (.slice A (alongM (nodesB evs).length (lastN evs) v ax).length c) ∧ IntsAt w' A (alongM (nodesB evs).length (lastN evs) v ax).length (alongM (nodesB evs).length (lastN evs) v ax) ∧ Below w.heap.size w w'
  rw [← alongR_eq hx]
  refine along9_any an cn _ v ax _ _ w h.len (wholeB_pos h.whole) hx.rng (fun i hi => ?_) h1 (by omega)
  obtain ⟨t, ht, _, _⟩ := wholeB_some h.whole
  have hxx : (nodesB evs)[i]? = some (nodesB evs)[i] := List.getElem?_eq_getElem hi
  obtain ⟨b, e, A, m, c, q1, q2, _, _, _, q6, q7, _⟩ := h.nodes i _ hxx
  refine ⟨b, q1, q2, ?_, ?_⟩
  · rw [q6]; unfold parN; rw [hxx]; rfl
  · rw [q7, lastN_at ht hxx]

set_option maxRecDepth 100000 in
set_option maxHeartbeats 8000000 in
theorem from12_of {an : Option Addr} {cn : Nat} {evs : List Ev} {f : Nat} (HX : HoldR an cn evs f) (v : Int) (pa : Option Addr) (pc : Nat) (ss : List PS) (w : World) (hv1 : -1 ≤ v) (hv2 : v < (nodesB evs).length) (hq : RQ w an evs) (hs : SsAt f w pa ss) (hsl : ss.length ≤ 1048576) (hg : ∀ s ∈ ss, goodSB (goodXB f) s = true) :
    Calls Tryd.prog 19 #[.slice an (nodesB evs).length cn, .int .i64 v, .agg #[.slice pa ss.length pc]] w fun e w' => ∃ A c, e = .returned (.slice A (fromP (treePT evs) f v ss).length c) ∧ IntsAt w' A (fromP (treePT evs) f v ss).length (fromP (treePT evs) f v ss) ∧ Below w.heap.size w w' ∧ (fromP (treePT evs) f v ss).length ≤ c := by
  obtain ⟨i0, hi0, hz0, hz1, hz2⟩ := info_parts infoBool
  obtain ⟨j0, hj, hjz0, hjz1, hjz2⟩ := info_parts infoInt
  obtain ⟨m, hm⟩ : ∃ m, ss.length = m := ⟨_, rfl⟩
  rw [hm] at hsl ⊢
  have HM := Lib.hid hm
  obtain ⟨W1, hW1⟩ : ∃ W1, W1 = w.alloc (.cells #[.slice pa m pc] 25) := ⟨_, rfl⟩
  have hb1 : Below w.heap.size w W1 := by rw [hW1]; exact (Below.refl _ _).alloc (Nat.le_refl _) _
  have hs1 : W1.heap.size = w.heap.size + 1 := by rw [hW1]; simp
  have hk1 : W1.heap[w.heap.size]? = some (.cells #[.slice pa m pc] 25 (0, 0)) := by rw [hW1]; exact heap_alloc_new w _
  have HKS : Hid (∀ W, Below (w.heap.size + 1) W1 W → W.cell? ⟨w.heap.size, 0, none⟩ = some (.slice pa m pc)) := Lib.hid fun W hW => by
    rw [cell_heap ((hW.block w.heap.size (by omega)).trans hk1)]; rfl
  have HBW : Hid (∀ W, Below (w.heap.size + 1) W1 W → Below w.heap.size w W) := Lib.hid fun W hW => hb1.trans (hW.mono (by omega))
  have HW1 : Hid (∀ o, Below (w.heap.size + 1) W1 (W1.alloc o)) := Lib.hid fun o => (Below.refl _ _).alloc (by omega) _
  have HSS := Lib.hid hs
  have HQ := Lib.hid hq
  have HG := Lib.hid hg
  obtain ⟨fr, hfr⟩ : ∃ fr : Nat → List Bool, fr = fun k => stepsP (holdP (treePT evs) f) (treePT evs) (oneP (nodesB evs).length v) (ss.take k) := ⟨_, rfl⟩
  have HFL : Hid (∀ k, (fr k).length = (nodesB evs).length + 1) := Lib.hid fun k => by rw [hfr]; show (stepsP _ _ _ _).length = _; rw [stepsP_len, oneP_len]
  have HF0 : Hid (trueIdx (fr 0) = [v]) := Lib.hid (by rw [hfr]; exact trueIdx_one _ v hv1 hv2)
  have HFS : Hid (∀ k, (hk : k < ss.length) → fr (k + 1) = stepP (holdP (treePT evs) f) (treePT evs) (fr k) ss[k]) := Lib.hid fun k hk => by
    rw [hfr]; exact stepsP_succ _ _ _ ss k hk
  have HFE : Hid (trueIdx (fr m) = fromP (treePT evs) f v ss) := Lib.hid (by
    rw [hfr]
    show trueIdx (stepsP _ _ _ (ss.take m)) = _
    rw [List.take_of_length_le (by omega)]; rfl)
  obtain ⟨R, hR⟩ : ∃ R, fromP (treePT evs) f v ss = R := ⟨_, rfl⟩
  rw [hR] at HFE ⊢
  have hL : (nodesB evs).length ≤ 400 := hq.len
  have hax := axF_of hq.whole
  have HIN : Hid (∀ n a x, x ∈ (treePT evs).along n a → -1 ≤ x ∧ x < ((nodesB evs).length : Int)) := Lib.hid fun n a x h => alongM_in hax.rng n a x h
  have HW1E := Lib.hid hW1
  have hs1' := hs1
  clear hR hfr hW1 hb1 hs1 hk1 hs hq hg hm hax
  generalize hT : treePT evs = T at *
  have HT := Lib.hid hT
  clear hT
  obtain ⟨L, hLL⟩ : ∃ L, (nodesB evs).length = L := ⟨_, rfl⟩
  rw [hLL] at hL hv2 HFL HIN ⊢
  have HLL := Lib.hid hLL
  clear hLL
  obtain ⟨n, hn⟩ : ∃ n, n = L + 1 := ⟨_, rfl⟩
  rw [← hn] at HFL
  have HNE := Lib.hid hn
  have ewN : IntKind.i64.wrap ((L : Int) + 1) = ((n : Nat) : Int) := by rw [IntWalk.i64_in _ (by omega)]; omega
  have hn2 : n ≤ 401 := by omega
  clear hn
  have hbr : Below (w.heap.size + 1) W1 (W1.alloc (.cells #[.int .i64 v] 3)) := HW1.out _
  have hir : IntsAt (W1.alloc (.cells #[.int .i64 v] 3)) (some ⟨W1.heap.size, 0, none⟩) 1 [v] := ints_one (heap_alloc_new W1 _)
  have HST : Hid (Below (w.heap.size + 1) W1 (W1.alloc (.cells #[.int .i64 v] 3)) ∧ IntsAt (W1.alloc (.cells #[.int .i64 v] 3)) (some ⟨W1.heap.size, 0, none⟩) 1 [v] ∧ 1 ≤ 1) := Lib.hid ⟨hbr, hir, Nat.le_refl _⟩
  have HSZ1 : Hid (W1.heap.size = w.heap.size + 1) := Lib.hid hs1'
  rw [HSZ1.out] at HST
  clear hbr hir hs1'
  have HMS : Hid (∀ W k x, Below (w.heap.size + 1) W1 W → x < n → k < ss.length → ∀ (wa : Option Addr) (wc : Nat), True) := Lib.hid fun _ _ _ _ _ _ _ _ => trivial
  clear HMS
  go_enter Tryd.func19, Tryd.ntmps19
  go_wp2_with fail
  rw [← HW1E.out]
  go_loopw [7, 8] (fun fv kv wr => ∃ (k : Nat) (A : Option Addr) (cc : Nat), kv = .int .i64 k ∧ fv = .slice A (trueIdx (fr k)).length cc ∧ k ≤ m ∧ Hid (Below (w.heap.size + 1) W1 wr ∧ IntsAt wr A (trueIdx (fr k)).length (trueIdx (fr k)) ∧ (trueIdx (fr k)).length ≤ cc)) (fun _ kv _ => m - (intOf kv).toNat)
  case atStart => exact ⟨0, some ⟨w.heap.size + 1, 0, none⟩, 1, rfl, by rw [HF0.out]; rfl, Nat.zero_le _, by rw [HF0.out]; exact HST⟩
  case round =>
    obtain ⟨k, A, cc, rfl, rfl, hkm, HJ⟩ := hrel
    obtain ⟨w2, rfl⟩ : ∃ w', w' = wr := ⟨_, rfl⟩
    have c5 := HKS.out w2 HJ.out.1
    by_cases hk : k < m
    · have hkl : k < ss.length := by rw [HM.out]; exact hk
      have k1 : (0 : Int) ≤ (k : Int) := by omega
      have k2 : (k : Int) < (m : Int) := by omega
      have ewk : IntKind.i64.wrap ((k : Int) + 1) = (k : Int) + 1 := IntWalk.i64_in _ (by omega)
      obtain ⟨sb, so, wa, wc, rfl, hsb, hst, hcs⟩ := HSS.out.get' k hkl
      obtain ⟨g0, g1, g2, g3⟩ := hcs w2 (HBW.out w2 HJ.out.1)
      have HGS := Lib.hid (HG.out _ (List.getElem_mem hkl))
      have HNX := Lib.hid (HFS.out k hkl)
      have HST2 : Hid (∀ W, Below (w.heap.size + 1) W1 W → StepAt (XAt f) W ss[k] (stepC ss[k] wa wc)) := Lib.hid fun W hW => hst.turn (HBW.out W hW) fun _ _ => XAt.turn (HBW.out W hW) (Nat.le_refl _)
      have HFK := Lib.hid (HFL.out k)
      generalize ss[k] = s at *
      generalize fr k = frk at *
      generalize hfrn : fr (k + 1) = frn at *
      have HFRN := Lib.hid hfrn
      clear hfrn
      clear hcs hst hsb
      have HAX : Hid (0 ≤ s.axis ∧ s.axis ≤ 3) := Lib.hid (by
        have := HGS.out
        unfold goodSB at this
        simp only [Bool.and_eq_true, decide_eq_true_eq] at this
        exact ⟨this.1.1.1.1.1, this.1.1.1.1.2⟩)
      have HGW : Hid (s.wher.all (goodXB f) = true) := Lib.hid (by
        have := HGS.out
        unfold goodSB at this
        rw [Bool.and_eq_true] at this
        exact this.2)
      obtain ⟨FF, hFF⟩ : ∃ F, trueIdx frk = F := ⟨_, rfl⟩
      rw [hFF] at HJ ⊢
      have HFF := Lib.hid hFF
      clear hFF
      obtain ⟨fn, hfn⟩ : ∃ fn, FF.length = fn := ⟨_, rfl⟩
      rw [hfn] at HJ ⊢
      have HFN := Lib.hid hfn
      have hfn2 : fn ≤ 401 := by
        rw [← hfn, ← HFF.out]
        refine Nat.le_trans (trueTo_len _ _) ?_
        rw [HFK.out]; exact hn2
      clear hfn
      unfold stepC at HST2
      obtain ⟨W2, hW2⟩ : ∃ W2, W2 = w2.alloc (.cells #[.int .i64 s.axis, .int .i64 s.test, .string (strL s.name), .slice wa s.wher.length wc] 57) := ⟨_, rfl⟩
      have hb2 : Below (w.heap.size + 1) W1 W2 := by rw [hW2]; exact HJ.out.1.alloc (Nat.le_trans (Nat.le_of_eq HSZ1.out.symm) HJ.out.1.size) _
      have hb22 : Below w2.heap.size w2 W2 := by rw [hW2]; exact (Below.refl _ _).alloc (Nat.le_refl _) _
      have hs2 : W2.heap.size = w2.heap.size + 1 := by rw [hW2]; simp
      have hk2 : W2.heap[w2.heap.size]? = some (.cells #[.int .i64 s.axis, .int .i64 s.test, .string (strL s.name), .slice wa s.wher.length wc] 57 (0, 0)) := by rw [hW2]; exact heap_alloc_new w2 _
      have HB2 : Hid (Below (w.heap.size + 1) W1 W2 ∧ Below w2.heap.size w2 W2 ∧ W2.heap.size = w2.heap.size + 1 ∧ w.heap.size + 1 ≤ w2.heap.size) := Lib.hid ⟨hb2, hb22, hs2, by have := HJ.out.1.size; have := HSZ1.out; omega⟩
      have HC9 : Hid (∀ W, Below W2.heap.size W2 W → W.cell? ⟨w2.heap.size, 0, none⟩ = some (.int .i64 s.axis) ∧ W.cell? ⟨w2.heap.size, 1, none⟩ = some (.int .i64 s.test) ∧ W.cell? ⟨w2.heap.size, 2, none⟩ = some (.string (strL s.name)) ∧ W.cell? ⟨w2.heap.size, 3, none⟩ = some (.slice wa s.wher.length wc)) := Lib.hid fun W hW => by
        have h5 := (hW.block w2.heap.size (by omega)).trans hk2
        refine ⟨?_, ?_, ?_, ?_⟩ <;> (rw [cell_heap h5]; rfl)
      have HW2E := Lib.hid hW2
      have HI2 := Lib.hid (HJ.out.2.1.below hb22)
      clear hb2 hb22 hs2 hk2 hW2
      go_wp2_with (at_make; go_must ((refine wpList_make_full _ (by rfl) _ _ 89 (by rfl) w.heap.size 4 i0 _ 1 Tryd.underlying89 hi0 hz0 hz1 .i64 .i64 (n : Int) (n : Int) n (by rfl) (by rfl) rfl rfl (by rw [hz2]; omega) (by unfold maxLen; omega) (by have h1 := HB2.out.2.2.2; have h2 := World.size_alloc w2 (.cells #[.int .i64 s.axis, .int .i64 s.test, .string (strL s.name), .slice wa s.wher.length wc] 57); omega) (fun w3 hown hgr => ?_)); (obtain ⟨HRB, hgc, hgf⟩ := made_row hown hgr 0 (by have := HNE.out; omega)); (clear hown hgr)))
      rw [← HW2E.out] at HRB
      obtain ⟨G, hG⟩ : ∃ G, w2.heap.size + 1 = G := ⟨_, rfl⟩
      have HGE : Hid (W2.heap.size = G ∧ w2.heap.size < G) := Lib.hid ⟨HB2.out.2.2.1.trans hG, by omega⟩
      rw [HGE.out.1] at HRB
      have e1 : (w2.alloc (.cells #[.int .i64 s.axis, .int .i64 s.test, .string (strL s.name), .slice wa s.wher.length wc] 57)).heap.size = G := by rw [← HW2E.out]; exact HGE.out.1
      clear hgc hgf g0 g1 g2 g3
      rw [hG]
      clear hG
      have HEX := Lib.hid e1
      clear e1
      obtain ⟨al, hal⟩ : ∃ al : Int → List Int, al = fun y => T.along y s.axis := ⟨_, rfl⟩
      have HAIN : Hid (∀ y x, x ∈ al y → -1 ≤ x ∧ x < (L : Int)) := Lib.hid fun y x h => by rw [hal] at h; exact HIN.out y s.axis x h
      have HMA : Hid (markL (List.replicate n false) (FF.flatMap al) = (List.range n).map (reachP T frk s.axis)) := Lib.hid (by
        rw [← HFF.out, hal]
        exact mark_all T frk s.axis n (fun v x h => (HIN.out v s.axis x h).1))
      have HALG : Hid (∀ y W, Below G W2 W → Calls Tryd.prog 36 #[.slice an L cn, .int .i64 y, .int .i64 s.axis] W fun e w' => ∃ A c, e = .returned (.slice A (al y).length c) ∧ IntsAt w' A (al y).length (al y) ∧ Below W.heap.size W w') := Lib.hid fun y W hW => by
        have h := along12_any (cn := cn) y s.axis W (HQ.out.below (HBW.out W (HB2.out.1.trans (hW.mono (by have := HB2.out; have := HGE.out; omega))))) (by have := HAX.out; omega) (by have := HAX.out; omega)
        rw [HLL.out, HT.out] at h
        rw [hal]
        exact h
      have HALL : Hid (∀ y, (al y).length ≤ 401) := Lib.hid fun y => by
        rw [hal]
        show (T.along y s.axis).length ≤ 401
        rw [← HT.out]
        have := alongM_len (nodesB evs).length (lastN evs) y s.axis
        rw [HLL.out] at this
        show (alongM (nodesB evs).length (lastN evs) y s.axis).length ≤ 401
        rw [HLL.out]; omega
      have HR2 : Hid (Below G W2 w3 ∧ RowB w3 G (markL (List.replicate n false) ((FF.take 0).flatMap al))) := Lib.hid ⟨HRB.out.2, HRB.out.1⟩
      clear hal HRB
      have HCC : Hid (∀ W, Below G W2 W → W.cell? ⟨w2.heap.size, 0, none⟩ = some (.int .i64 s.axis) ∧ W.cell? ⟨w2.heap.size, 1, none⟩ = some (.int .i64 s.test) ∧ W.cell? ⟨w2.heap.size, 2, none⟩ = some (.string (strL s.name)) ∧ W.cell? ⟨w2.heap.size, 3, none⟩ = some (.slice wa s.wher.length wc)) := Lib.hid fun W hW => HC9.out W (by rw [HGE.out.1]; exact hW)
      go_wp2_with fail
      go_loopw [11, 12, 13] (fun iv _ _ wr => ∃ i : Nat, iv = .int .i64 i ∧ i ≤ fn ∧ Hid (Below G W2 wr ∧ RowB wr G (markL (List.replicate n false) ((FF.take i).flatMap al)))) (fun iv _ _ _ => fn - (intOf iv).toNat)
      case atStart => exact ⟨0, rfl, Nat.zero_le _, HR2⟩
      case round =>
        obtain ⟨i, rfl, hif, HJ2⟩ := hrel
        obtain ⟨w4, rfl⟩ : ∃ w', w' = wr := ⟨_, rfl⟩
        have ewi : IntKind.i64.wrap ((i : Int) + 1) = (i : Int) + 1 := IntWalk.i64_in _ (by omega)
        have i1 : (0 : Int) ≤ (i : Int) := by omega
        by_cases hi : i < fn
        · have i2 : (i : Int) < (fn : Int) := by omega
          have hil : i < FF.length := by rw [HFN.out]; exact hi
          obtain ⟨b6, o6, rfl, hb6, hc6⟩ := HI2.out.at' i hil
          have HCS : Hid (∀ W, Below G W2 W → W.cell? ⟨b6, o6 + i, none⟩ = some (.int .i64 FF[i]) ∧ W.cell? ⟨w2.heap.size, 0, none⟩ = some (.int .i64 s.axis) ∧ Below G W2 W) := Lib.hid fun W hW => ⟨(hW.cell (p := ⟨b6, o6 + i, none⟩) (by rw [← HGE.out.1]; exact hb6)).trans hc6, (HCC.out W hW).1, hW⟩
          have HNF : Hid ((FF.take (i + 1)).flatMap al = (FF.take i).flatMap al ++ al FF[i]) := Lib.hid (flat_take FF al i hil)
          generalize FF[i] = y at *
          have HALY := Lib.hid (HALG.out y)
          have hbd := HJ2.out.1.drew
          obtain ⟨c1, c2, _⟩ := HCS.out _ hbd
          obtain ⟨c3, c4, _⟩ := HCS.out _ HJ2.out.1
          have HRD : Hid (RowB w4.drew G (markL (List.replicate n false) ((FF.take i).flatMap al))) := Lib.hid HJ2.out.2
          clear hb6 hc6
          go_wp2_with fail
          go_region_held3 (fun w' => w'.cell? ⟨b6, o6 + i, none⟩ = some (.int .i64 y) ∧ w'.cell? ⟨w2.heap.size, 0, none⟩ = some (.int .i64 s.axis) ∧ Below G W2 w') (first | exact HCS.out _ hbd | exact HCS.out _ ‹_›) (first | (go_at_call 36; (with_reducible refine (HALY.out _ hbd).mono ?_); rintro e w5 ⟨A5, c5', rfl, hi5, hb5⟩; have hb6 := hbd.trans (hb5.mono (by rw [← HGE.out.1]; exact hbd.size))))
          rw [HEX.out] at *
          have HB6 := Lib.hid hb6
          have HIA := Lib.hid hi5
          have HRM := Lib.hid (HRD.out.below (show G < w4.drew.heap.size from HRD.out.lt) hb5)
          clear hbd c1 c2 c3 c4 hi5 hb5 hb6
          obtain ⟨tl0, htl0⟩ : ∃ tl, markL (List.replicate n false) ((FF.take i).flatMap al) = tl := ⟨_, rfl⟩
          have HTL : Hid (markL (List.replicate n false) ((FF.take (i + 1)).flatMap al) = markL tl0 (al y) ∧ tl0.length = n) := Lib.hid (by
            rw [HNF.out, markL_app, htl0]
            exact ⟨rfl, by rw [← htl0, markL_len, List.length_replicate]⟩)
          rw [htl0] at HRM
          clear htl0
          have HAY := Lib.hid (HAIN.out y)
          obtain ⟨an5, hal5⟩ : ∃ k, (al y).length = k := ⟨_, rfl⟩
          have hal6 : an5 ≤ 401 := by rw [← hal5]; exact HALL.out y
          rw [hal5] at HIA ⊢
          have HAL5 := Lib.hid hal5
          clear hal5
          generalize al y = aly at *
          go_wp2_with fail
          go_loopw [13] (fun jv wr => ∃ j : Nat, jv = .int .i64 j ∧ j ≤ an5 ∧ Hid (Below G W2 wr ∧ RowB wr G (markL tl0 (aly.take j)) ∧ IntsAt wr A5 an5 aly)) (fun jv _ => an5 - (intOf jv).toNat)
          case atStart => exact ⟨0, rfl, Nat.zero_le _, Lib.hid ⟨HB6.out, HRM.out, HIA.out⟩⟩
          case round =>
            obtain ⟨j, rfl, hja, HJ3⟩ := hrel
            obtain ⟨w7, rfl⟩ : ∃ w', w' = wr := ⟨_, rfl⟩
            have j1 : (0 : Int) ≤ (j : Int) := by omega
            have ewj2 : IntKind.i64.wrap ((j : Int) + 1) = (j : Int) + 1 := IntWalk.i64_in _ (by omega)
            by_cases hj2 : j < an5
            · have j2 : (j : Int) < (an5 : Int) := by omega
              have hjl : j < aly.length := by rw [HAL5.out]; exact hj2
              have HFAR := Lib.hid (ints_far HJ3.out.2.2 HJ3.out.2.1 (by omega))
              obtain ⟨b8, o8, rfl, hb8, hc8⟩ := HJ3.out.2.2.at' j hjl
              have hyr := HAY.out _ (List.getElem_mem hjl)
              have HTK : Hid (markL tl0 (aly.take (j + 1)) = (markL tl0 (aly.take j)).set (aly[j] + 1).toNat true) := Lib.hid (by rw [List.take_succ_eq_append_getElem hjl, markL_snoc])
              generalize aly[j] = z at *
              have hz3 : (z + 1).toNat < n := by have := HNE.out; omega
              have ewz : IntKind.i64.wrap (z + 1) = z + 1 := IntWalk.i64_in _ (by omega)
              have z1 : (0 : Int) ≤ z + 1 := by omega
              have z2 : z + 1 < (n : Int) := by have := HNE.out; omega
              have fg := HJ3.out.2.1.frozen (z + 1).toNat
              have hcg := HJ3.out.2.1.cell (i := (z + 1).toNat) (b := (markL tl0 (aly.take j))[(z + 1).toNat]'(by rw [markL_len, HTL.out.2]; exact hz3)) (List.getElem?_eq_getElem _)
              have HN3 : Hid (Below G W2 (w7.setCell ⟨G, (z + 1).toNat, none⟩ (.bool true)) ∧ RowB (w7.setCell ⟨G, (z + 1).toNat, none⟩ (.bool true)) G (markL tl0 (aly.take (j + 1))) ∧ IntsAt (w7.setCell ⟨G, (z + 1).toNat, none⟩ (.bool true)) (some ⟨b8, o8, none⟩) an5 aly) := Lib.hid ⟨HJ3.out.1.setCell (p := ⟨G, (z + 1).toNat, none⟩) (Nat.le_refl _) _, by rw [HTK.out]; exact HJ3.out.2.1.set _ true, IntsAt.far HJ3.out.2.2 HFAR.out _⟩
              clear hb8
              go_wp2_with fail
              go_roundw
              case rel => exact ⟨j + 1, by go_num, by omega, HN3⟩
              case measure => simp [intOf]; omega
            · have j4 : j = an5 := by omega
              subst j4
              have j5 : (j : Int) ≤ (j : Int) := Int.le_refl _
              have HN2 : Hid (Below G W2 w7 ∧ RowB w7 G (markL (List.replicate n false) ((FF.take (i + 1)).flatMap al))) := Lib.hid ⟨HJ3.out.1, by
                rw [HTL.out.1]
                have := HJ3.out.2.1
                rwa [List.take_of_length_le (by rw [HAL5.out]; exact Nat.le_refl _)] at this⟩
              go_wp2_with fail
              go_roundw
              case rel => exact ⟨i + 1, by go_num, by omega, HN2⟩
              case measure => simp [intOf]; omega
        · have i3 : i = fn := by omega
          subst i3
          have i4 : (i : Int) ≤ (i : Int) := Int.le_refl _
          have HRG : Hid (RowB w4 G ((List.range n).map (reachP T frk s.axis))) := Lib.hid (by
            have := HJ2.out.2
            rw [List.take_of_length_le (by rw [HFN.out]; exact Nat.le_refl _), HMA.out] at this
            exact this)
          have HB4 := Lib.hid HJ2.out.1
          have HNXL : Hid (frn.length = n) := Lib.hid (by rw [HNX.out, stepP_len]; exact HFK.out)
          have HRQA : Hid (∀ q, q < n → frn[q]? = some (reachP T frk s.axis q && (meetsP T ((q : Int) - 1) s && s.wher.all (holdP T f ((q : Int) - 1))))) := Lib.hid fun q hq => by
            rw [HNX.out]
            unfold stepP
            rw [List.getElem?_map, HFK.out, List.getElem?_range hq]; rfl
          have HMEET : Hid (∀ (q : Nat) W, q < n → Below w4.heap.size w4 W → Calls Tryd.prog 37 #[.slice an L cn, .int .i64 ((q : Int) - 1), .agg #[.int .i64 s.axis, .int .i64 s.test, .string (strL s.name), .slice wa s.wher.length wc]] W fun e w' => e = .returned (.bool (meetsP T ((q : Int) - 1) s)) ∧ Below W.heap.size W w') := Lib.hid fun q W hq hW => by
            have hw2 : Below (w.heap.size + 1) W1 W := HB2.out.1.trans ((HB4.out.trans (hW.mono (by have := HB4.out.size; have := HGE.out.1; omega))).mono (by have := HB2.out; have := HGE.out; omega))
            have h := meets12_any (cn := cn) ((q : Int) - 1) s wa wc W (HQ.out.below (HBW.out W hw2)) (by rw [HLL.out]; have := HNE.out; omega)
            rw [HLL.out, HT.out] at h
            exact h
          have HALLQ : Hid (∀ (q : Nat) W, q < n → Below w4.heap.size w4 W → Calls Tryd.prog 38 #[.slice an L cn, .int .i64 ((q : Int) - 1), .slice wa s.wher.length wc] W fun e w' => e = .returned (.bool (s.wher.all (holdP T f ((q : Int) - 1)))) ∧ Below W.heap.size W w') := Lib.hid fun q W hq hW => by
            have hw2 : Below (w.heap.size + 1) W1 W := HB2.out.1.trans ((HB4.out.trans (hW.mono (by have := HB4.out.size; have := HGE.out.1; omega))).mono (by have := HB2.out; have := HGE.out; omega))
            obtain ⟨wa', wc', e0, _, _, _, _, hwl, hxr⟩ := HST2.out W hw2
            injection e0 with _ e0
            injection e0 with _ e0
            injection e0 with _ e0
            injection e0 with e0 _
            injection e0 with e1 _ e2
            subst e1 e2
            have h := all12_of HX ((q : Int) - 1) s.wher wa wc W (by omega) (by rw [HLL.out]; have := HNE.out; omega) (HQ.out.below (HBW.out W hw2)) hxr hwl HGW.out
            rw [HLL.out, HT.out] at h
            exact h
          have HKC : Hid (∀ W, Below w4.heap.size w4 W → Below G W2 W ∧ Below (w.heap.size + 1) W1 W) := Lib.hid fun W hW => by
            have h1 : Below G W2 W := HB4.out.trans (hW.mono (by have := HB4.out.size; have := HGE.out.1; omega))
            exact ⟨h1, HB2.out.1.trans (h1.mono (by have := HB2.out; have := HGE.out; omega))⟩
          have HB40 : Hid (Below w4.heap.size w4 w4 ∧ w4.ownsRow w4.heap.size 3 1 (.slice none 0 0) (trueTo frn 0).length ((trueTo frn 0).map (Value.int .i64))) := Lib.hid ⟨Below.refl _ _, World.ownsRow_nil _ _ _ _⟩
          clear HJ2 HMA HNX HALG HFF HAIN HALL
          go_wp2_with fail
          go_loopw [7, 14] (fun ov qv wr => ∃ q : Nat, qv = .int .i64 ((q : Int) - 1) ∧ q ≤ n ∧ Hid (Below w4.heap.size w4 wr ∧ wr.ownsRow w4.heap.size 3 1 ov (trueTo frn q).length ((trueTo frn q).map (Value.int .i64)))) (fun _ qv _ => (n : Int).toNat - (intOf qv + 1).toNat)
          case atStart => exact ⟨0, rfl, Nat.zero_le _, HB40⟩
          case round =>
            obtain ⟨q, rfl, hqn, HJ4⟩ := hrel
            obtain ⟨w8, rfl⟩ : ∃ w', w' = wr := ⟨_, rfl⟩
            obtain ⟨oa, oc, rfl, _, _, _⟩ := own_slice HJ4.out.2
            obtain ⟨on, hon⟩ : ∃ on, (trueTo frn q).length = on := ⟨_, rfl⟩
            have honl : on ≤ 401 := by have := trueTo_len frn q; omega
            rw [hon] at HJ4 ⊢
            have HON := Lib.hid hon
            clear hon
            by_cases hq : q < n
            · have hq0 : (q : Int) - 1 < (L : Int) := by have := HNE.out; omega
              have hq1 : (0 : Int) ≤ (q : Int) := by omega
              have hq2 : (q : Int) < (n : Int) := by omega
              have ewq : IntKind.i64.wrap ((q : Int) - 1 + 1) = (q : Int) := by rw [IntWalk.i64_in _ (by omega)]; omega
              have ewq2 : IntKind.i64.wrap (q : Int) = (q : Int) := IntWalk.i64_in _ (by omega)
              have HEXQ : Hid ((q : Int) = (((q + 1 : Nat) : Int) - 1)) := Lib.hid (by omega)
              have HRQ := Lib.hid (HRQA.out q hq)
              have HME := Lib.hid fun W => HMEET.out q W hq
              have HAQ := Lib.hid fun W => HALLQ.out q W hq
              have eg := (HRG.out.below HRG.out.lt HJ4.out.1).cell (i := q) (b := reachP T frk s.axis q) (by rw [List.getElem?_map, List.getElem?_range hq]; rfl)
              obtain ⟨x0, x1, x2, x3⟩ := HCC.out w8 (HKC.out w8 HJ4.out.1).1
              generalize reachP T frk s.axis q = br at *
              generalize meetsP T ((q : Int) - 1) s = bm at *
              generalize s.wher.all (holdP T f ((q : Int) - 1)) = bq at *
              cases br with
              | false =>
                have HTT : Hid (trueTo frn (q + 1) = trueTo frn q) := Lib.hid (by rw [trueTo_succ, HRQ.out]; simp)
                have HN4 : Hid (Below w4.heap.size w4 w8 ∧ w8.ownsRow w4.heap.size 3 1 (.slice oa on oc) (trueTo frn (q + 1)).length ((trueTo frn (q + 1)).map (Value.int .i64))) := Lib.hid (by rw [HTT.out, HON.out]; exact HJ4.out)
                go_wp2_with fail
                go_roundw
                case rel => exact ⟨q + 1, congrArg (Value.int .i64) HEXQ.out, by omega, HN4⟩
                case measure => simp [intOf]; omega
              | true =>
                go_wp2_with fail
                (with_reducible refine (HME.out w8 HJ4.out.1).mono ?_)
                rintro e w9 ⟨rfl, hb9⟩
                have HB9 := Lib.hid (HJ4.out.1.trans (hb9.mono HJ4.out.1.size))
                have HO9 : Hid (w9.ownsRow w4.heap.size 3 1 (.slice oa on oc) on ((trueTo frn q).map (Value.int .i64))) := Lib.hid (own_block HJ4.out.2 (fun k hk => hb9.block k (HJ4.out.2.lt k hk).2))
                clear hb9 x0 x1 x2 x3 eg
                obtain ⟨x0, x1, x2, x3⟩ := HCC.out w9 (HKC.out w9 HB9.out).1
                cases bm with
                | false =>
                  have HTT : Hid (trueTo frn (q + 1) = trueTo frn q) := Lib.hid (by rw [trueTo_succ, HRQ.out]; simp)
                  have HN4 : Hid (Below w4.heap.size w4 w9 ∧ w9.ownsRow w4.heap.size 3 1 (.slice oa on oc) (trueTo frn (q + 1)).length ((trueTo frn (q + 1)).map (Value.int .i64))) := Lib.hid (by rw [HTT.out, HON.out]; exact ⟨HB9.out, HO9.out⟩)
                  go_wp2_with fail
                  go_roundw
                  case rel => exact ⟨q + 1, congrArg (Value.int .i64) HEXQ.out, by omega, HN4⟩
                  case measure => simp [intOf]; omega
                | true =>
                  go_wp2_with fail
                  (with_reducible refine (HAQ.out w9 HB9.out).mono ?_)
                  rintro e w10 ⟨rfl, hb10⟩
                  have HB10 := Lib.hid (HB9.out.trans (hb10.mono HB9.out.size))
                  have HO10 : Hid (w10.ownsRow w4.heap.size 3 1 (.slice oa on oc) on ((trueTo frn q).map (Value.int .i64))) := Lib.hid (own_block HO9.out (fun k hk => hb10.block k (HO9.out.lt k hk).2))
                  clear hb10 x0 x1 x2 x3
                  cases bq with
                  | false =>
                    have HTT : Hid (trueTo frn (q + 1) = trueTo frn q) := Lib.hid (by rw [trueTo_succ, HRQ.out]; simp)
                    have HN4 : Hid (Below w4.heap.size w4 w10 ∧ w10.ownsRow w4.heap.size 3 1 (.slice oa on oc) (trueTo frn (q + 1)).length ((trueTo frn (q + 1)).map (Value.int .i64))) := Lib.hid (by rw [HTT.out, HON.out]; exact ⟨HB10.out, HO10.out⟩)
                    go_wp2_with fail
                    go_roundw
                    case rel => exact ⟨q + 1, congrArg (Value.int .i64) HEXQ.out, by omega, HN4⟩
                    case measure => simp [intOf]; omega
                  | true =>
                    have HTT : Hid (trueTo frn (q + 1) = trueTo frn q ++ [(q : Int) - 1]) := Lib.hid (by rw [trueTo_succ, HRQ.out]; rfl)
                    go_wp2_with (at_builtin; go_must ((refine wpList_app w10 (by rfl) _ _ 36 (by rfl) w4.heap.size 3 j0 (.int .i64 0) 1 8 Tryd.underlying36 hj hjz0 hjz1 hjz2 (by rfl) (by decide) (.slice oa on oc) on _ (by rfl) HO10.out _ rfl 1 [.int .i64 ((q : Int) - 1)] (by rfl) (by rfl) (by intro u hu; simp only [List.mem_cons, List.not_mem_nil, or_false] at hu; subst hu; rfl) (by omega) (by decide) HB10.out.size (fun v7 w11 hown7 hap7 => ?_))))
                    have HN4 := app_next HON.out HB10.out HO10.out hown7 hap7
                    rw [← HTT.out] at HN4
                    clear hown7 hap7
                    go_wp2_with fail
                    go_roundw
                    case rel => exact ⟨q + 1, congrArg (Value.int .i64) HEXQ.out, by omega, HN4⟩
                    case measure => simp [intOf]; omega
            · have hqq : q = n := by omega
              subst hqq
              have hq0 : (L : Int) ≤ (q : Int) - 1 := by have := HNE.out; omega
              have HTI : Hid (trueTo frn q = trueIdx frn) := Lib.hid (by rw [← HNXL.out]; rfl)
              rw [HTI.out] at HJ4 HON
              have HNO : Hid (Below (w.heap.size + 1) W1 w8 ∧ IntsAt w8 oa (trueIdx frn).length (trueIdx frn) ∧ (trueIdx frn).length ≤ oc) := Lib.hid ⟨(HKC.out w8 HJ4.out.1).2, by
                have ho := HJ4.out.2
                rw [← HON.out] at ho
                obtain ⟨a', c', e', hc', h2⟩ := own_ints ho
                cases e'
                exact ⟨h2, hc'⟩⟩
              rw [← HON.out]
              go_wp2_with fail
              go_roundw
              case rel => exact ⟨k + 1, oa, oc, by go_num, by rw [HFRN.out], by omega, by rw [HFRN.out]; exact HNO⟩
              case measure => simp [intOf]; omega
    · have hk2 : k = m := by omega
      subst hk2
      have k3 : (k : Int) ≤ (k : Int) := Int.le_refl _
      rw [HFE.out] at HJ ⊢
      go_wp2_with fail
      go_ret
      exact ⟨_, _, rfl, HJ.out.2.1, HBW.out _ HJ.out.1, HJ.out.2.2⟩
end Go.Proofs.YtekoflcioooncaaDoor
