/-
  gimletref12.Holds of a Some; Holds, From, Select, to any depth.
-/
import Derived.Test.YtekoflcioooncaaDoorMxZN
import Derived.Test.YtekoflcioooncaaDoorMxZF
namespace Go.Proofs.YtekoflcioooncaaDoor
open Go.RowKit

theorem strL_neE {l : List UInt8} (h : l ≠ []) : (strL l).toList.isEmpty = false := by
  rw [strL_isE2]
  cases l with
  | nil => exact absurd rfl h
  | cons _ _ => rfl
theorem compares_attr {evs : List Ev} {v : Int} {x : PX} (ha : x.attr ≠ []) : comparesP (treePT evs) v x = match attrA evs v x.attr with | none => false | some s => (cmpB s x.cmp x.text x.num).getD false := by
  unfold comparesP askedP
  rw [if_neg ha]
  rfl
theorem attrA_len {evs : List Ev} (h2 : wholeB evs = true) (h3 : ∀ e ∈ evs, EvSm e) {v : Int} (hv : v < (nodesB evs).length) {nm s : List UInt8} (h : attrA evs v nm = some s) : s.length ≤ 1048576 := by
  unfold attrA at h
  split at h
  · cases h
  · obtain ⟨x, _, _, hsm, _⟩ := node_kind h2 h3 v.toNat (by omega)
    cases hf : (nodeEv evs v.toNat).ats.find? fun p => p.1 == nm with
    | none => rw [hf] at h; cases h
    | some p =>
      rw [hf] at h
      obtain rfl : p.2 = s := by simpa using h
      exact (hsm.2.2.2 p (List.mem_of_find?_eq_some hf)).2

set_option maxRecDepth 100000 in
set_option maxHeartbeats 8000000 in
theorem holds12Some {an : Option Addr} {cn : Nat} {evs : List Ev} {f : Nat} (HX : HoldR an cn evs f) (v : Int) (x : PX) (cs : List Value) (w : World) (hv1 : -1 ≤ v) (hv2 : v < (nodesB evs).length) (hq : RQ w an evs) (h : XAt (f + 1) w x cs) (hg : goodXB (f + 1) x = true) (hop : x.op = 3) :
    Calls Tryd.prog 25 #[.slice an (nodesB evs).length cn, .int .i64 v, .agg cs.toArray] w fun e w' => e = .returned (.bool (holdP (treePT evs) (f + 1) v x)) ∧ Below w.heap.size w w' := by
  obtain ⟨aa, ac, pa, pc, rfl, hal, hpl, _, _, _, hatl, htxl, hargl, hpathl, hargs, hpath⟩ := h
  have hgp := goodXB_path hg hop
  have hgd : ∀ s ∈ x.path, goodSB (goodXB f) s = true := fun s hs => by
    obtain ⟨i, hi, rfl⟩ := List.getElem_of_mem hs
    exact goodPB_at hgp i hi
  obtain ⟨F, hF⟩ : ∃ F, fromP (treePT evs) f v x.path = F := ⟨_, rfl⟩
  have hR : holdP (treePT evs) (f + 1) v x = F.any fun u => comparesP (treePT evs) u x := by
    rw [holdP_succ, if_neg (by rw [hop]; decide), if_neg (by rw [hop]; decide), if_neg (by rw [hop]; decide), someP_any, ← hF]; rfl
  rw [hR, hop]
  have HFM : Hid (∀ u ∈ F, -1 ≤ u ∧ u < ((nodesB evs).length : Int)) := Lib.hid fun u hu => by
    rw [← hF] at hu
    obtain ⟨k, rfl, hk⟩ := mem_fromP.1 hu
    have hk2 := fr_lt hk
    rw [stepsP_len, oneP_len] at hk2
    have : (treePT evs).N = (nodesB evs).length := rfl
    omega
  have HFRM : Hid (∀ W, Below w.heap.size w W → Calls Tryd.prog 19 #[.slice an (nodesB evs).length cn, .int .i64 v, .agg #[.slice pa x.path.length pc]] W fun e w' => ∃ A c, e = .returned (.slice A F.length c) ∧ IntsAt w' A F.length F ∧ Below W.heap.size W w') := Lib.hid fun W hW => by
    have h := from12_of (cn := cn) HX v pa pc x.path W hv1 hv2 (hq.below hW) (SsAt.below hpath hW) hpathl hgd
    rw [hF] at h; exact h.mono fun e w' ⟨A, c, h1, h2, h3, _⟩ => ⟨A, c, h1, h2, h3⟩
  have HVAL : Hid (∀ u W, Below w.heap.size w W → -1 ≤ u → u < ((nodesB evs).length : Int) → Calls Tryd.prog 50 #[.slice an (nodesB evs).length cn, .int .i64 u] W fun e w' => e = .returned (.string (strL ((treePT evs).value u))) ∧ w' = W) := Lib.hid fun u W hW h1 h2 => value12_any u W (hq.below hW) h1 h2
  have HVL : Hid (∀ u, -1 ≤ u → u < ((nodesB evs).length : Int) → ((treePT evs).value u).length ≤ 1048576) := Lib.hid fun u h1 h2 => hq.texts u u.toNat (by omega) h2
  have HATR : Hid (∀ u W, Below w.heap.size w W → u < ((nodesB evs).length : Int) → Calls Tryd.prog 51 #[.slice an (nodesB evs).length cn, .int .i64 u, .string (strL x.attr)] W fun e w' => e = .returned (.tuple #[.string (strL ((attrA evs u x.attr).getD [])), .bool (attrA evs u x.attr).isSome]) ∧ Below W.heap.size W w') := Lib.hid fun u W hW h2 => attr12_any u x.attr W (hq.below hW) h2
  have HATL : Hid (∀ u s, u < ((nodesB evs).length : Int) → attrA evs u x.attr = some s → s.length ≤ 1048576) := Lib.hid fun u s h1 h2 => attrA_len hq.whole hq.sm h1 h2
  have HCMP : Hid (∀ s W, s.length ≤ 1048576 → Calls Tryd.prog 21 #[.string (strL s), .int .i64 x.cmp, .string (strL x.text), .int .i64 x.num] W fun e w' => e = .returned (.tuple #[.bool ((cmpB s x.cmp x.text x.num).getD false), .bool (cmpB s x.cmp x.text x.num).isSome]) ∧ Below W.heap.size W w') := Lib.hid fun s W hs => Compared12_any s x.text x.cmp x.num W hs htxl
  obtain ⟨W0, hW0⟩ : ∃ W0, W0 = w.alloc (.cells #[.int .i64 3, .slice aa x.args.length ac, .slice pa x.path.length pc, .string (strL x.attr), .int .i64 x.cmp, .string (strL x.text), .int .i64 x.num] 61) := ⟨_, rfl⟩
  have hb0 : Below w.heap.size w W0 := by rw [hW0]; exact (Below.refl w.heap.size w).alloc (Nat.le_refl _) _
  have hs0 : W0.heap.size = w.heap.size + 1 := by rw [hW0]; simp
  have hk0 : W0.heap[w.heap.size]? = some (.cells #[.int .i64 3, .slice aa x.args.length ac, .slice pa x.path.length pc, .string (strL x.attr), .int .i64 x.cmp, .string (strL x.text), .int .i64 x.num] 61 (0, 0)) := by rw [hW0]; exact heap_alloc_new w _
  have HKB : Hid (∀ W, Below W0.heap.size W0 W → W.cell? ⟨w.heap.size, 2, none⟩ = some (.slice pa x.path.length pc) ∧ W.cell? ⟨w.heap.size, 3, none⟩ = some (.string (strL x.attr)) ∧ W.cell? ⟨w.heap.size, 4, none⟩ = some (.int .i64 x.cmp) ∧ W.cell? ⟨w.heap.size, 5, none⟩ = some (.string (strL x.text)) ∧ W.cell? ⟨w.heap.size, 6, none⟩ = some (.int .i64 x.num)) := Lib.hid fun W hW => (boxE ((hW.block w.heap.size (by omega)).trans hk0)).2.2
  have HBW : Hid (∀ W, Below W0.heap.size W0 W → Below w.heap.size w W) := Lib.hid fun W hW => hb0.trans (hW.mono (by omega))
  have HFR0 := Lib.hid (HFRM.out W0 hb0)
  have HW0E := Lib.hid hW0
  obtain ⟨R, hRR⟩ : ∃ R, (F.any fun u => comparesP (treePT evs) u x) = R := ⟨_, rfl⟩
  rw [hRR]
  have HE : Hid (∀ u ∈ F, comparesP (treePT evs) u x = true → true = R) := Lib.hid fun u hu hc => by
    rw [← hRR]; exact (List.any_eq_true.2 ⟨u, hu, hc⟩).symm
  have HA : Hid ((∀ u ∈ F, comparesP (treePT evs) u x = false) → false = R) := Lib.hid fun h => by
    rw [← hRR]; exact (List.any_eq_false.2 fun u hu => by rw [h u hu]; decide).symm
  have HCV : Hid (x.attr = [] → ∀ u, comparesP (treePT evs) u x = (cmpB ((treePT evs).value u) x.cmp x.text x.num).getD false) := Lib.hid fun ha u => by
    unfold comparesP askedP; rw [if_pos ha]
  have HCA : Hid (x.attr ≠ [] → ∀ u, comparesP (treePT evs) u x = match attrA evs u x.attr with | none => false | some s => (cmpB s x.cmp x.text x.num).getD false) := Lib.hid fun ha u => compares_attr ha
  have hFl : F.length ≤ 401 := by
    rw [← hF]
    refine Nat.le_trans (trueTo_len _ _) ?_
    rw [stepsP_len, oneP_len]
    have := hq.len
    show (nodesB evs).length + 1 ≤ 401
    omega
  have he1 := strL_isE2 x.attr
  clear hR hRR hF hgp hgd hq hg hatl htxl hargs hpath hb0 hs0 hk0 hW0 hv2 hop hal hpl hargl hpathl HFRM
  obtain ⟨fn, hfn⟩ : ∃ fn, F.length = fn := ⟨_, rfl⟩
  rw [hfn] at HFR0 hFl
  have HFN := Lib.hid hfn
  clear hfn
  obtain ⟨cmpF, hcmpF⟩ : ∃ g : List UInt8 → Option Bool, g = fun s => cmpB s x.cmp x.text x.num := ⟨_, rfl⟩
  have HCF : Hid (∀ s, cmpB s x.cmp x.text x.num = cmpF s) := Lib.hid fun s => by rw [hcmpF]
  obtain ⟨cpr, hcpr⟩ : ∃ g : Int → Bool, g = fun u => comparesP (treePT evs) u x := ⟨_, rfl⟩
  have HCP : Hid (∀ u, comparesP (treePT evs) u x = cpr u) := Lib.hid fun s => by rw [hcpr]
  simp only [HCF.out, HCP.out] at HCMP HE HA HCV HCA
  clear hcmpF hcpr HCF HCP
  generalize (nodesB evs).length = L at *
  generalize x.path.length = pl at *
  generalize x.args.length = al at *
  generalize x.cmp = cmv at *
  generalize strL x.text = txv at *
  generalize x.num = nuv at *
  show Calls Tryd.prog 25 #[.slice an L cn, .int .i64 v, .agg #[.int .i64 3, .slice aa al ac, .slice pa pl pc, .string (strL x.attr), .int .i64 cmv, .string txv, .int .i64 nuv]] w _
  go_enter Tryd.func25, Tryd.ntmps25
  go_wp2_with fail
  rw [← HW0E.out]
  obtain ⟨p2, p3, p4, p5, p6⟩ := HKB.out W0 (Below.refl _ _)
  go_wp2_with fail
  (with_reducible refine HFR0.out.mono ?_)
  rintro e w2 ⟨A2, c2, rfl, hi2, hb2⟩
  have HI2 := Lib.hid hi2
  have HB2 := Lib.hid hb2
  clear hi2 hb2 p2 p3 p4 p5 p6
  go_wp2_with fail
  go_loopw [10, 11, 12, 13, 14] (fun iv _ _ _ _ wr => ∃ i : Nat, iv = .int .i64 i ∧ i ≤ fn ∧ Hid ((∀ j (hj : j < F.length), j < i → cpr F[j] = false) ∧ Below w2.heap.size w2 wr)) (fun iv _ _ _ _ _ => fn - (intOf iv).toNat)
  case atStart => exact ⟨0, rfl, Nat.zero_le _, Lib.hid ⟨fun _ _ h => absurd h (Nat.not_lt_zero _), Below.refl _ _⟩⟩
  case round =>
    obtain ⟨i, rfl, hif, HJ⟩ := hrel
    obtain ⟨w3, rfl⟩ : ∃ w', w' = wr := ⟨_, rfl⟩
    have hbw := HB2.out.trans (HJ.out.2.mono HB2.out.size)
    have HBX := Lib.hid hbw
    have ewi : IntKind.i64.wrap ((i : Int) + 1) = (i : Int) + 1 := IntWalk.i64_in _ (by omega)
    have i1 : (0 : Int) ≤ (i : Int) := by omega
    by_cases hi : i < fn
    · have i2 : (i : Int) < (fn : Int) := by omega
      have hil : i < F.length := by rw [HFN.out]; exact hi
      obtain ⟨b6, o6, rfl, hb6, hc6⟩ := HI2.out.at' i hil
      have HCS : Hid (∀ W, Below w2.heap.size w2 W → W.cell? ⟨b6, o6 + i, none⟩ = some (.int .i64 F[i])) := Lib.hid fun W hW => (hW.cell (p := ⟨b6, o6 + i, none⟩) hb6).trans hc6
      have HMEM := Lib.hid (List.getElem_mem hil)
      have HNX : Hid (cpr F[i] = false → ∀ j (hj : j < F.length), j < i + 1 → cpr F[j] = false) := Lib.hid fun h2 j hj hij => by
        rcases Nat.lt_or_ge j i with h | h
        · exact HJ.out.1 j hj h
        · have : j = i := by omega
          subst this; exact h2
      have hur := HFM.out _ (List.getElem_mem hil)
      generalize F[i] = u at *
      have HV := Lib.hid (HVAL.out u w3 (HBW.out _ hbw) hur.1 hur.2)
      have HVLX := Lib.hid (HVL.out u hur.1 hur.2)
      have HAT := Lib.hid fun W hW => HATR.out u W hW hur.2
      have HATLX := Lib.hid fun s => HATL.out u s hur.2
      have HCVX := Lib.hid fun h => HCV.out h u
      have HCAX := Lib.hid fun h => HCA.out h u
      generalize (treePT evs).value u = vu at *
      generalize hcu : cpr u = cu at *
      have HCU := Lib.hid hcu
      clear hcu
      generalize attrA evs u x.attr = au at *
      have c6 := HCS.out w3 HJ.out.2
      obtain ⟨p2, p3, p4, p5, p6⟩ := HKB.out w3 hbw
      clear hb6 hc6 hur hbw
      by_cases ha : x.attr = []
      · have hae : (strL x.attr).toList.isEmpty = true := by rw [he1, ha]; rfl
        have HCUV := Lib.hid (HCVX.out ha)
        have HCC := Lib.hid (HCMP.out vu w3 HVLX.out)
        clear ha he1 HCVX HCAX
        generalize strL x.attr = atv at *
        generalize (cmpF vu).isSome = sm2 at *
        generalize (cmpF vu).getD false = bb at *
        generalize strL vu = vuv at *
        go_wp2_with fail
        (with_reducible refine HV.out.mono ?_)
        rintro e w4 ⟨rfl, rfl⟩
        go_wp2_with fail
        (with_reducible refine HCC.out.mono ?_)
        rintro e w5 ⟨rfl, hb5⟩
        have HB5 := Lib.hid (HJ.out.2.trans (hb5.mono HJ.out.2.size))
        have HBX5 := Lib.hid (HBX.out.trans (hb5.mono HBX.out.size))
        clear hb5
        cases bb with
        | true =>
          have HFF := Lib.hid (HE.out u HMEM.out (HCU.out.trans HCUV.out))
          go_wp2_with fail
          go_ret
          exact ⟨ret_bool HFF.out, HBW.out _ HBX5.out⟩
        | false =>
          have HN := Lib.hid (HNX.out HCUV.out)
          go_wp2_with fail
          go_roundw
          case rel => exact ⟨i + 1, by go_num, by omega, Lib.hid ⟨HN.out, HB5.out⟩⟩
          case measure => simp [intOf]; omega
      · have hae : (strL x.attr).toList.isEmpty = false := strL_neE ha
        have HCUA := Lib.hid (HCAX.out ha)
        clear ha he1 HCVX HCAX
        have HATW : Hid (∀ W, Below w2.heap.size w2 W → Calls Tryd.prog 51 #[.slice an L cn, .int .i64 u, .string (strL x.attr)] W fun e w' => e = .returned (.tuple #[.string (strL (au.getD [])), .bool au.isSome]) ∧ Below w2.heap.size w2 w') := Lib.hid fun W hW => (HAT.out W (HBW.out _ (HB2.out.trans (hW.mono HB2.out.size)))).mono fun e w' ⟨h1, h2⟩ => ⟨h1, hW.trans (h2.mono hW.size)⟩
        have HCSS : Hid (∀ W, Below w2.heap.size w2 W → W.cell? ⟨b6, o6 + i, none⟩ = some (.int .i64 u) ∧ W.cell? ⟨w.heap.size, 3, none⟩ = some (.string (strL x.attr)) ∧ Below w2.heap.size w2 W) := Lib.hid fun W hW => ⟨HCS.out W hW, (HKB.out W (HB2.out.trans (hW.mono HB2.out.size))).2.1, hW⟩
        generalize strL x.attr = atv at *
        generalize strL vu = vuv at *
        have hbd := HJ.out.2.drew
        obtain ⟨d6, d3, _⟩ := HCSS.out _ hbd
        go_wp2_with fail
        (with_reducible refine HV.out.mono ?_)
        rintro e w4 ⟨rfl, rfl⟩
        go_wp2_with fail
        go_region_held3 (fun w' => w'.cell? ⟨b6, o6 + i, none⟩ = some (.int .i64 u) ∧ w'.cell? ⟨w.heap.size, 3, none⟩ = some (.string atv) ∧ Below w2.heap.size w2 w') (first | exact HCSS.out _ hbd | exact HCSS.out _ ‹_›) (first | (go_at_call 51; (with_reducible refine (HATW.out _ hbd).mono ?_); rintro e w5 ⟨rfl, hb5⟩))
        have HB5 := Lib.hid hb5
        have HBX5 := Lib.hid (HB2.out.trans (hb5.mono HB2.out.size))
        clear hb5 hbd d6 d3 p2 p3 p4 p5 p6
        cases au with
        | none =>
          have HN := Lib.hid (HNX.out HCUA.out)
          go_wp2_with fail
          go_roundw
          case rel => exact ⟨i + 1, by go_num, by omega, Lib.hid ⟨HN.out, HB5.out⟩⟩
          case measure => simp [intOf]; omega
        | some sv =>
          have HCC := Lib.hid (HCMP.out sv w5 (HATLX.out sv rfl))
          have HCUB : Hid (cu = (cmpF sv).getD false) := Lib.hid HCUA.out
          obtain ⟨p2, p3, p4, p5, p6⟩ := HKB.out w5 HBX5.out
          generalize (cmpF sv).isSome = sm2 at *
          generalize (cmpF sv).getD false = bb at *
          have HSV : Hid ((some sv : Option (List UInt8)).getD [] = sv) := Lib.hid rfl
          rw [HSV.out]
          clear HSV
          generalize strL sv = svv at *
          go_wp2_with fail
          (with_reducible refine HCC.out.mono ?_)
          rintro e w6 ⟨rfl, hb6⟩
          have HB6 := Lib.hid (HB5.out.trans (hb6.mono HB5.out.size))
          have HBX6 := Lib.hid (HBX5.out.trans (hb6.mono HBX5.out.size))
          clear hb6
          cases bb with
          | true =>
            have HFF := Lib.hid (HE.out u HMEM.out (HCU.out.trans HCUB.out))
            go_wp2_with fail
            go_ret
            exact ⟨ret_bool HFF.out, HBW.out _ HBX6.out⟩
          | false =>
            have HN := Lib.hid (HNX.out HCUB.out)
            go_wp2_with fail
            go_roundw
            case rel => exact ⟨i + 1, by go_num, by omega, Lib.hid ⟨HN.out, HB6.out⟩⟩
            case measure => simp [intOf]; omega
    · have hi2 : i = fn := by omega
      subst hi2
      have i4 : (i : Int) ≤ (i : Int) := Int.le_refl _
      have HTT : Hid (false = R) := Lib.hid (HA.out fun u hu => by
        obtain ⟨j, hj, rfl⟩ := List.getElem_of_mem hu
        exact HJ.out.1 j hj (by have := HFN.out; omega))
      go_wp2_with fail
      go_ret
      exact ⟨ret_bool HTT.out, HBW.out _ HBX.out⟩
theorem holds12_all (an : Option Addr) (cn : Nat) (evs : List Ev) : ∀ f, HoldR an cn evs f
  | 0 => fun v x cs W _ _ _ _ hg => by cases hg
  | f + 1 => fun v x cs W hv1 hv2 hq h hg => by
    have HX := holds12_all an cn evs f
    have hop : x.op = 0 ∨ x.op = 1 ∨ x.op = 2 ∨ x.op = 3 := by
      by_cases h3 : x.op = 3
      · exact .inr (.inr (.inr h3))
      · rcases (goodXB_args hg h3).1 with h | h | ⟨h, _⟩
        · exact .inl h
        · exact .inr (.inl h)
        · exact .inr (.inr (.inl h))
    rcases hop with h0 | h1 | h2 | h3
    · exact holds12And HX v x cs W hv1 hv2 hq h hg h0
    · exact holds12Or HX v x cs W hv1 hv2 hq h hg h1
    · exact holds12Not HX v x cs W hv1 hv2 hq h hg h2
    · exact holds12Some HX v x cs W hv1 hv2 hq h hg h3
end Go.Proofs.YtekoflcioooncaaDoor

namespace Go.Proofs.YtekoflcioooncaaDoor
open Go.RowKit

theorem from12_all {an : Option Addr} {cn : Nat} {evs : List Ev} {f : Nat} (v : Int) (pa : Option Addr) (pc : Nat) (ss : List PS) (w : World) (hv1 : -1 ≤ v) (hv2 : v < (nodesB evs).length) (hq : RQ w an evs) (hs : SsAt f w pa ss) (hsl : ss.length ≤ 1048576) (hck : checkN f ss = 0) :
    Calls Tryd.prog 19 #[.slice an (nodesB evs).length cn, .int .i64 v, .agg #[.slice pa ss.length pc]] w fun e w' => ∃ A c, e = .returned (.slice A (fromP (treePT evs) f v ss).length c) ∧ IntsAt w' A (fromP (treePT evs) f v ss).length (fromP (treePT evs) f v ss) ∧ Below w.heap.size w w' ∧ (fromP (treePT evs) f v ss).length ≤ c :=
  from12_of (holds12_all an cn evs f) v pa pc ss w hv1 hv2 hq hs hsl fun s hs => by
    obtain ⟨i, hi, rfl⟩ := List.getElem_of_mem hs
    exact goodPB_at (checkN_good hck) i hi

set_option maxRecDepth 100000 in
set_option maxHeartbeats 4000000 in
theorem select12_any {an : Option Addr} {cn : Nat} {evs : List Ev} {f : Nat} (pa : Option Addr) (pc : Nat) (ss : List PS) (w : World) (hq : RQ w an evs) (hs : SsAt f w pa ss) (hsl : ss.length ≤ 1048576) (hck : checkN f ss = 0) :
    Calls Tryd.prog 17 #[.slice an (nodesB evs).length cn, .agg #[.slice pa ss.length pc]] w fun e w' => ∃ A c, e = .returned (.slice A (dropTop (fromP (treePT evs) f (-1) ss)).length c) ∧ IntsAt w' A (dropTop (fromP (treePT evs) f (-1) ss)).length (dropTop (fromP (treePT evs) f (-1) ss)) ∧ Below w.heap.size w w' := by
  have hb0 : Below w.heap.size w (w.alloc (.cells #[.slice pa ss.length pc] 25)) := (Below.refl _ _).alloc (Nat.le_refl _) _
  have HB0 := Lib.hid hb0
  have HF := Lib.hid (from12_all (cn := cn) (-1) pa pc ss _ (by omega) (by have := wholeB_pos hq.whole; omega) (hq.below hb0) (SsAt.below hs hb0) hsl hck)
  have hlen : (fromP (treePT evs) f (-1) ss).length ≤ 401 := by
    refine Nat.le_trans (trueTo_len _ _) ?_
    rw [stepsP_len, oneP_len]
    have := hq.len
    show (nodesB evs).length + 1 ≤ 401
    omega
  clear hb0 hq hs hsl hck
  generalize fromP (treePT evs) f (-1) ss = l at *
  generalize ss.length = m at *
  generalize (nodesB evs).length = L at *
  go_enter Tryd.func17, Tryd.ntmps17
  go_wp2_with fail
  (with_reducible refine HF.out.mono ?_)
  rintro e w2 ⟨A, cc, rfl, hi, hb2, hcc⟩
  have HB2 := Lib.hid (HB0.out.trans (hb2.mono HB0.out.size))
  clear hb2
  cases l with
  | nil =>
    rw [show ([] : List Int).length = 0 from rfl] at *
    have HI := Lib.hid hi
    clear hi
    go_wp2_with fail
    go_ret
    exact ⟨A, cc, rfl, HI.out, HB2.out⟩
  | cons x r =>
    obtain ⟨b, o, rfl, hb, hc⟩ := hi.at' 0 (Nat.zero_lt_succ _)
    rw [List.getElem_cons_zero, Nat.add_zero] at hc
    have HI := Lib.hid hi
    obtain ⟨n, hn⟩ : ∃ n, (x :: r).length = n := ⟨_, rfl⟩
    rw [hn] at hlen HI hcc ⊢
    have hn1 : 1 ≤ n := by rw [← hn]; simp
    have hrn : r.length = n - 1 := by rw [← hn]; simp
    have HRN := Lib.hid hrn
    have HN := Lib.hid hn
    clear hi hb hn hrn
    have n1 : (0 : Int) < (n : Int) := by omega
    by_cases hx : x = -1
    · have hxb : (x == -1) = true := by simp [hx]
      have HD : Hid (dropTop (x :: r) = r) := Lib.hid (if_pos hx)
      have n2 : (1 : Int) ≤ (n : Int) := by omega
      have hsn : ((n : Int) - 1).toNat = n - 1 := by omega
      have HIR : Hid (∀ o', (n - 1 = 0 ∨ o' = o + 1) → IntsAt w2 (some ⟨b, o', none⟩) (n - 1) r) := Lib.hid fun o' ho => ⟨HRN.out.symm, fun i hi => by
        rcases ho with h0 | rfl
        · have := HRN.out; omega
        · obtain ⟨b', o', e', h1, h2⟩ := HI.out.at' (i + 1) (by simpa using hi)
          cases e'
          exact ⟨b, o + 1, rfl, h1, by rw [Nat.add_assoc, Nat.add_comm 1 i]; exact h2⟩⟩
      clear hx
      by_cases hc1 : cc = 1
      · subst hc1
        have hn0 : n = 1 := by omega
        subst hn0
        go_wp2_with fail
        go_ret
        rw [HD.out, HRN.out]
        exact ⟨_, _, rfl, HIR.out _ (.inl (by trivial)), HB2.out⟩
      · have hc2 : 1 < cc := by omega
        go_wp2_with fail
        go_ret
        rw [HD.out, HRN.out]
        exact ⟨_, _, rfl, HIR.out _ (.inr rfl), HB2.out⟩
    · have hxb : (x == -1) = false := by simpa using hx
      have HD : Hid (dropTop (x :: r) = x :: r) := Lib.hid (if_neg hx)
      clear hx
      go_wp2_with fail
      go_ret
      rw [HD.out, HN.out]
      exact ⟨_, _, rfl, HI.out, HB2.out⟩
end Go.Proofs.YtekoflcioooncaaDoor
