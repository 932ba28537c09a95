/-
  gimletref12.Holds, From, Select, to any depth.
-/
import Derived.Test.YtekoflcioooncaaDoorMxZL
import Derived.Test.YtekoflcioooncaaDoorMxZM
import Derived.Test.YtekoflcioooncaaDoorMxZA
namespace Go.Proofs.YtekoflcioooncaaDoor
open Go.RowKit

theorem boxE {W : World} {G : Nat} {c0 c1 c2 c3 c4 c5 c6 : Value} (h : W.heap[G]? = some (.cells #[c0, c1, c2, c3, c4, c5, c6] 61 (0, 0))) : W.cell? ⟨G, 0, none⟩ = some c0 ∧ W.cell? ⟨G, 1, none⟩ = some c1 ∧ W.cell? ⟨G, 2, none⟩ = some c2 ∧ W.cell? ⟨G, 3, none⟩ = some c3 ∧ W.cell? ⟨G, 4, none⟩ = some c4 ∧ W.cell? ⟨G, 5, none⟩ = some c5 ∧ W.cell? ⟨G, 6, none⟩ = some c6 := by
  refine ⟨?_, ?_, ?_, ?_, ?_, ?_, ?_⟩ <;> (rw [cell_heap h]; rfl)
theorem value12_any {an : Option Addr} {cn : Nat} {evs : List Ev} (v : Int) (w : World) (h : RQ w an evs) (h1 : -1 ≤ v) (h2 : v < (nodesB evs).length) :
    Calls Tryd.prog 50 #[.slice an (nodesB evs).length cn, .int .i64 v] w fun e w' => e = .returned (.string (strL ((treePT evs).value v))) ∧ w' = w := by
  obtain ⟨t, ht, _, _⟩ := wholeB_some h.whole
  have hpos := wholeB_pos h.whole
  have hi : v.toNat < (nodesB evs).length := by omega
  have hx : (nodesB evs)[v.toNat]? = some (nodesB evs)[v.toNat] := List.getElem?_eq_getElem hi
  have hl := lastN_at ht hx
  have e : (treePT evs).value v = txtR evs v.toNat ((nodesB evs)[v.toNat].last.toNat + 1) := by
    show txtR evs v.toNat (hiOf (nodesB evs).length (lastN evs) v) = _
    congr 1
    unfold hiOf
    split
    · rename_i hneg
      have h0 : v.toNat = 0 := by omega
      have h3 : lastN evs v.toNat + 1 = (nodesB evs).length := by rw [h0]; exact last_root h.whole
      omega
    · omega
  rw [e]
  exact value9_any an cn v.toNat v _ evs w h.nodes hx (by omega)
theorem someP_any (T : PT) (fr : List Bool) (x : PX) : someP T fr x = (trueIdx fr).any fun v => comparesP T v x := by
  cases hs : (trueIdx fr).any fun v => comparesP T v x with
  | true =>
    rw [List.any_eq_true] at hs
    obtain ⟨v, hv, hc⟩ := hs
    obtain ⟨k, h1, h2, rfl⟩ := mem_trueIdx.1 hv
    unfold someP
    rw [List.any_eq_true]
    exact ⟨k, List.mem_range.2 h1, by rw [h2, hc]; rfl⟩
  | false =>
    rw [List.any_eq_false] at hs
    unfold someP
    rw [List.any_eq_false]
    intro k hk hc
    rw [Bool.and_eq_true] at hc
    exact hs _ (mem_trueIdx.2 ⟨k, List.mem_range.1 hk, hc.1, rfl⟩) hc.2
set_option maxRecDepth 100000 in
set_option maxHeartbeats 4000000 in
theorem holds12And {an : Option Addr} {cn : Nat} {evs : List Ev} {f : Nat} (HX : HoldR an cn evs f) (v : Int) (x0 : PX) (cs : List Value) (w : World) (hv1 : -1 ≤ v) (hv2 : v < (nodesB evs).length) (hq : RQ w an evs) (h : XAt (f + 1) w x0 cs) (hg : goodXB (f + 1) x0 = true) (hop : x0.op = 0) :
    Calls Tryd.prog 25 #[.slice an (nodesB evs).length cn, .int .i64 v, .agg cs.toArray] w fun e w' => e = .returned (.bool (holdP (treePT evs) (f + 1) v x0)) ∧ Below w.heap.size w w' := by
  obtain ⟨aa, ac, pa, pc, rfl, hal, hpl, _, _, _, hatl, htxl, hn, hpathl, hx, hpath⟩ := h
  obtain ⟨_, hga⟩ := goodXB_args hg (by rw [hop]; decide)
  rw [show holdP (treePT evs) (f + 1) v x0 = x0.args.all (holdP (treePT evs) f v) by rw [holdP_succ]; simp [hop]]
  obtain ⟨l, hl⟩ : ∃ l, x0.args = l := ⟨_, rfl⟩
  have HROW : Hid (XsAt f w aa l) := Lib.hid (hl ▸ hx)
  have HG : Hid (∀ x ∈ l, goodXB f x = true) := Lib.hid (hl ▸ hga)
  have HCA : Hid (∀ (x : PX) (cs : List Value) (W : World), x ∈ l → Below w.heap.size w W → XAt f W x cs → Calls Tryd.prog 25 #[.slice an (nodesB evs).length cn, .int .i64 v, .agg cs.toArray] W fun e w' => e = .returned (.bool (holdP (treePT evs) f v x)) ∧ Below W.heap.size W w') := Lib.hid fun x cs W hxl hW hxa =>
    HX v x cs W hv1 hv2 (hq.below hW) hxa (HG.out x hxl)
  rw [hl] at hn ⊢
  rw [hop]
  obtain ⟨R, hR⟩ : ∃ R, l.all (holdP (treePT evs) f v) = R := ⟨_, rfl⟩
  rw [hR]
  have HE : Hid (∀ x ∈ l, holdP (treePT evs) f v x = false → false = R) := Lib.hid fun x hxl hf => by
    rw [← hR]
    cases hall : l.all (holdP (treePT evs) f v) with
    | false => rfl
    | true => rw [List.all_eq_true.1 hall x hxl] at hf; cases hf
  have HA : Hid ((∀ x ∈ l, holdP (treePT evs) f v x = true) → true = R) := Lib.hid fun h => by rw [← hR]; exact (List.all_eq_true.2 h).symm
  obtain ⟨W0, hW0⟩ : ∃ W0, W0 = w.alloc (.cells #[.int .i64 0, .slice aa l.length ac, .slice pa x0.path.length pc, .string (strL x0.attr), .int .i64 x0.cmp, .string (strL x0.text), .int .i64 x0.num] 61) := ⟨_, rfl⟩
  have hb0 : Below w.heap.size w W0 := by rw [hW0]; exact (Below.refl w.heap.size w).alloc (Nat.le_refl _) _
  have hs0 : W0.heap.size = w.heap.size + 1 := by rw [hW0]; simp
  have hk0 : W0.heap[w.heap.size]? = some (.cells #[.int .i64 0, .slice aa l.length ac, .slice pa x0.path.length pc, .string (strL x0.attr), .int .i64 x0.cmp, .string (strL x0.text), .int .i64 x0.num] 61 (0, 0)) := by rw [hW0]; exact heap_alloc_new w _
  have HKB : Hid (∀ W, Below W0.heap.size W0 W → W.cell? ⟨w.heap.size, 1, none⟩ = some (.slice aa l.length ac)) := Lib.hid fun W hW => (boxE ((hW.block w.heap.size (by omega)).trans hk0)).2.1
  have HBW : Hid (∀ W, Below W0.heap.size W0 W → Below w.heap.size w W) := Lib.hid fun W hW => hb0.trans (hW.mono (by omega))
  have HBS : Hid (Below W0.heap.size W0 W0) := Lib.hid (Below.refl _ _)
  have HW0E := Lib.hid hW0
  clear hR hx hq hga hg hpath hatl htxl hb0 hs0 hk0 hW0 hv2 hop hal hpl hl hpathl
  generalize hq : l.length = q at *
  have HQQ := Lib.hid hq
  clear hq
  generalize (nodesB evs).length = L at *
  generalize x0.path.length = pl at *
  generalize strL x0.attr = atv at *
  generalize x0.cmp = cmv at *
  generalize strL x0.text = txv at *
  generalize x0.num = nuv at *
  show Calls Tryd.prog 25 #[.slice an L cn, .int .i64 v, .agg #[.int .i64 0, .slice aa q ac, .slice pa pl pc, .string atv, .int .i64 cmv, .string txv, .int .i64 nuv]] w _
  go_enter Tryd.func25, Tryd.ntmps25
  go_wp2_with fail
  rw [← HW0E.out]
  go_loopw [7] (fun jv wr => ∃ j : Nat, jv = .int .i64 j ∧ j ≤ q ∧ Hid ((∀ i (hi : i < l.length), i < j → holdP (treePT evs) f v l[i] = true) ∧ Below W0.heap.size W0 wr)) (fun jv _ => q - (intOf jv).toNat)
  case atStart => exact ⟨0, rfl, Nat.zero_le _, Lib.hid ⟨fun _ _ h => absurd h (Nat.not_lt_zero _), HBS.out⟩⟩
  case round =>
    obtain ⟨j, rfl, hjq, HJ⟩ := hrel
    have c1 := HKB.out wr HJ.out.2
    by_cases hjl : j < q
    · have hjw : j < l.length := by rw [HQQ.out]; exact hjl
      obtain ⟨b2, o2, ya, yc, yp, yd, rfl, hb2, hx, hcs⟩ := HROW.out.get' j hjw
      obtain ⟨x0, x1, x2, x3, x4, x5, x6⟩ := hcs wr (HBW.out wr HJ.out.2)
      have HMEM : Hid (l[j] ∈ l) := Lib.hid (List.getElem_mem hjw)
      have HNX : Hid (holdP (treePT evs) f v l[j] = true → ∀ i (hi : i < l.length), i < j + 1 → holdP (treePT evs) f v l[i] = true) := Lib.hid fun h2 i hi hij => by
        rcases Nat.lt_or_ge i j with h | h
        · exact HJ.out.1 i hi h
        · have : i = j := by omega
          subst this; exact h2
      have HDX : Hid (∀ W, Below w.heap.size w W → Calls Tryd.prog 25 #[.slice an L cn, .int .i64 v, .agg (exprC l[j] ya yc yp yd).toArray] W fun e w' => e = .returned (.bool (holdP (treePT evs) f v l[j])) ∧ Below W.heap.size W w') := Lib.hid fun W hW =>
        HCA.out l[j] _ W (List.getElem_mem hjw) hW (XAt.turn hW (Nat.le_refl _) hx)
      clear hcs hx hb2
      generalize l[j] = y at *
      unfold exprC at HDX
      generalize hhv : holdP (treePT evs) f v y = hb at *
      have i3 : (0 : Int) ≤ (j : Int) := by omega
      have i4 : (j : Int) < (q : Int) := by omega
      have ewj : IntKind.i64.wrap ((j : Int) + 1) = (j : Int) + 1 := IntWalk.i64_in _ (by omega)
      have HHV := Lib.hid hhv
      clear hhv
      go_wp2_with fail
      (with_reducible refine (HDX.out _ (HBW.out _ HJ.out.2)).mono ?_)
      rintro e w15 ⟨rfl, hb15⟩
      have HB16 : Hid (Below W0.heap.size W0 w15) := Lib.hid (HJ.out.2.trans (hb15.mono HJ.out.2.size))
      clear hb15
      cases hb with
      | true =>
        have HN := Lib.hid (HNX.out rfl)
        go_wp2_with fail
        go_roundw
        case rel => exact ⟨j + 1, by go_num, by omega, Lib.hid ⟨HN.out, HB16.out⟩⟩
        case measure => simp [intOf]; omega
      | false =>
        have HFF := Lib.hid (HE.out y HMEM.out HHV.out)
        go_wp2_with fail
        go_ret
        exact ⟨ret_bool HFF.out, HBW.out _ HB16.out⟩
    · have i4 : (q : Int) ≤ (j : Int) := by omega
      have HTT : Hid (true = R) := Lib.hid (HA.out fun x hx => by
        obtain ⟨i, hi, rfl⟩ := List.getElem_of_mem hx
        exact HJ.out.1 i hi (by have := HQQ.out; omega))
      go_wp2_with fail
      go_ret
      exact ⟨ret_bool HTT.out, HBW.out _ HJ.out.2⟩
set_option maxRecDepth 100000 in
set_option maxHeartbeats 4000000 in
theorem holds12Or {an : Option Addr} {cn : Nat} {evs : List Ev} {f : Nat} (HX : HoldR an cn evs f) (v : Int) (x0 : PX) (cs : List Value) (w : World) (hv1 : -1 ≤ v) (hv2 : v < (nodesB evs).length) (hq : RQ w an evs) (h : XAt (f + 1) w x0 cs) (hg : goodXB (f + 1) x0 = true) (hop : x0.op = 1) :
    Calls Tryd.prog 25 #[.slice an (nodesB evs).length cn, .int .i64 v, .agg cs.toArray] w fun e w' => e = .returned (.bool (holdP (treePT evs) (f + 1) v x0)) ∧ Below w.heap.size w w' := by
  obtain ⟨aa, ac, pa, pc, rfl, hal, hpl, _, _, _, hatl, htxl, hn, hpathl, hx, hpath⟩ := h
  obtain ⟨_, hga⟩ := goodXB_args hg (by rw [hop]; decide)
  rw [show holdP (treePT evs) (f + 1) v x0 = x0.args.any (holdP (treePT evs) f v) by rw [holdP_succ]; simp [hop]]
  obtain ⟨l, hl⟩ : ∃ l, x0.args = l := ⟨_, rfl⟩
  have HROW : Hid (XsAt f w aa l) := Lib.hid (hl ▸ hx)
  have HG : Hid (∀ x ∈ l, goodXB f x = true) := Lib.hid (hl ▸ hga)
  have HCA : Hid (∀ (x : PX) (cs : List Value) (W : World), x ∈ l → Below w.heap.size w W → XAt f W x cs → Calls Tryd.prog 25 #[.slice an (nodesB evs).length cn, .int .i64 v, .agg cs.toArray] W fun e w' => e = .returned (.bool (holdP (treePT evs) f v x)) ∧ Below W.heap.size W w') := Lib.hid fun x cs W hxl hW hxa =>
    HX v x cs W hv1 hv2 (hq.below hW) hxa (HG.out x hxl)
  rw [hl] at hn ⊢
  rw [hop]
  obtain ⟨R, hR⟩ : ∃ R, l.any (holdP (treePT evs) f v) = R := ⟨_, rfl⟩
  rw [hR]
  have HE : Hid (∀ x ∈ l, holdP (treePT evs) f v x = true → true = R) := Lib.hid fun x hxl hf => by
    rw [← hR]
    cases hall : l.any (holdP (treePT evs) f v) with
    | true => rfl
    | false => exact absurd hf (by rw [List.any_eq_false] at hall; have := hall x hxl; simpa using this)
  have HA : Hid ((∀ x ∈ l, holdP (treePT evs) f v x = false) → false = R) := Lib.hid fun h => by rw [← hR]; exact (List.any_eq_false.2 fun x hx => by rw [h x hx]; decide).symm
  obtain ⟨W0, hW0⟩ : ∃ W0, W0 = w.alloc (.cells #[.int .i64 1, .slice aa l.length ac, .slice pa x0.path.length pc, .string (strL x0.attr), .int .i64 x0.cmp, .string (strL x0.text), .int .i64 x0.num] 61) := ⟨_, rfl⟩
  have hb0 : Below w.heap.size w W0 := by rw [hW0]; exact (Below.refl w.heap.size w).alloc (Nat.le_refl _) _
  have hs0 : W0.heap.size = w.heap.size + 1 := by rw [hW0]; simp
  have hk0 : W0.heap[w.heap.size]? = some (.cells #[.int .i64 1, .slice aa l.length ac, .slice pa x0.path.length pc, .string (strL x0.attr), .int .i64 x0.cmp, .string (strL x0.text), .int .i64 x0.num] 61 (0, 0)) := by rw [hW0]; exact heap_alloc_new w _
  have HKB : Hid (∀ W, Below W0.heap.size W0 W → W.cell? ⟨w.heap.size, 1, none⟩ = some (.slice aa l.length ac)) := Lib.hid fun W hW => (boxE ((hW.block w.heap.size (by omega)).trans hk0)).2.1
  have HBW : Hid (∀ W, Below W0.heap.size W0 W → Below w.heap.size w W) := Lib.hid fun W hW => hb0.trans (hW.mono (by omega))
  have HBS : Hid (Below W0.heap.size W0 W0) := Lib.hid (Below.refl _ _)
  have HW0E := Lib.hid hW0
  clear hR hx hq hga hg hpath hatl htxl hb0 hs0 hk0 hW0 hv2 hop hal hpl hl hpathl
  generalize hq : l.length = q at *
  have HQQ := Lib.hid hq
  clear hq
  generalize (nodesB evs).length = L at *
  generalize x0.path.length = pl at *
  generalize strL x0.attr = atv at *
  generalize x0.cmp = cmv at *
  generalize strL x0.text = txv at *
  generalize x0.num = nuv at *
  show Calls Tryd.prog 25 #[.slice an L cn, .int .i64 v, .agg #[.int .i64 1, .slice aa q ac, .slice pa pl pc, .string atv, .int .i64 cmv, .string txv, .int .i64 nuv]] w _
  go_enter Tryd.func25, Tryd.ntmps25
  go_wp2_with fail
  rw [← HW0E.out]
  go_loopw [8] (fun jv wr => ∃ j : Nat, jv = .int .i64 j ∧ j ≤ q ∧ Hid ((∀ i (hi : i < l.length), i < j → holdP (treePT evs) f v l[i] = false) ∧ Below W0.heap.size W0 wr)) (fun jv _ => q - (intOf jv).toNat)
  case atStart => exact ⟨0, rfl, Nat.zero_le _, Lib.hid ⟨fun _ _ h => absurd h (Nat.not_lt_zero _), HBS.out⟩⟩
  case round =>
    obtain ⟨j, rfl, hjq, HJ⟩ := hrel
    have c1 := HKB.out wr HJ.out.2
    by_cases hjl : j < q
    · have hjw : j < l.length := by rw [HQQ.out]; exact hjl
      obtain ⟨b2, o2, ya, yc, yp, yd, rfl, hb2, hx, hcs⟩ := HROW.out.get' j hjw
      obtain ⟨x0, x1, x2, x3, x4, x5, x6⟩ := hcs wr (HBW.out wr HJ.out.2)
      have HMEM : Hid (l[j] ∈ l) := Lib.hid (List.getElem_mem hjw)
      have HNX : Hid (holdP (treePT evs) f v l[j] = false → ∀ i (hi : i < l.length), i < j + 1 → holdP (treePT evs) f v l[i] = false) := Lib.hid fun h2 i hi hij => by
        rcases Nat.lt_or_ge i j with h | h
        · exact HJ.out.1 i hi h
        · have : i = j := by omega
          subst this; exact h2
      have HDX : Hid (∀ W, Below w.heap.size w W → Calls Tryd.prog 25 #[.slice an L cn, .int .i64 v, .agg (exprC l[j] ya yc yp yd).toArray] W fun e w' => e = .returned (.bool (holdP (treePT evs) f v l[j])) ∧ Below W.heap.size W w') := Lib.hid fun W hW =>
        HCA.out l[j] _ W (List.getElem_mem hjw) hW (XAt.turn hW (Nat.le_refl _) hx)
      clear hcs hx hb2
      generalize l[j] = y at *
      unfold exprC at HDX
      generalize hhv : holdP (treePT evs) f v y = hb at *
      have i3 : (0 : Int) ≤ (j : Int) := by omega
      have i4 : (j : Int) < (q : Int) := by omega
      have ewj : IntKind.i64.wrap ((j : Int) + 1) = (j : Int) + 1 := IntWalk.i64_in _ (by omega)
      have HHV := Lib.hid hhv
      clear hhv
      go_wp2_with fail
      (with_reducible refine (HDX.out _ (HBW.out _ HJ.out.2)).mono ?_)
      rintro e w15 ⟨rfl, hb15⟩
      have HB16 : Hid (Below W0.heap.size W0 w15) := Lib.hid (HJ.out.2.trans (hb15.mono HJ.out.2.size))
      clear hb15
      cases hb with
      | false =>
        have HN := Lib.hid (HNX.out rfl)
        go_wp2_with fail
        go_roundw
        case rel => exact ⟨j + 1, by go_num, by omega, Lib.hid ⟨HN.out, HB16.out⟩⟩
        case measure => simp [intOf]; omega
      | true =>
        have HFF := Lib.hid (HE.out y HMEM.out HHV.out)
        go_wp2_with fail
        go_ret
        exact ⟨ret_bool HFF.out, HBW.out _ HB16.out⟩
    · have i4 : (q : Int) ≤ (j : Int) := by omega
      have HTT : Hid (false = R) := Lib.hid (HA.out fun x hx => by
        obtain ⟨i, hi, rfl⟩ := List.getElem_of_mem hx
        exact HJ.out.1 i hi (by have := HQQ.out; omega))
      go_wp2_with fail
      go_ret
      exact ⟨ret_bool HTT.out, HBW.out _ HJ.out.2⟩
set_option maxRecDepth 100000 in
set_option maxHeartbeats 4000000 in
theorem holds12Not {an : Option Addr} {cn : Nat} {evs : List Ev} {f : Nat} (HX : HoldR an cn evs f) (v : Int) (x : PX) (cs : List Value) (w : World) (hv1 : -1 ≤ v) (hv2 : v < (nodesB evs).length) (hq : RQ w an evs) (h : XAt (f + 1) w x cs) (hg : goodXB (f + 1) x = true) (hop : x.op = 2) :
    Calls Tryd.prog 25 #[.slice an (nodesB evs).length cn, .int .i64 v, .agg cs.toArray] w fun e w' => e = .returned (.bool (holdP (treePT evs) (f + 1) v x)) ∧ Below w.heap.size w w' := by
  obtain ⟨aa, ac, pa, pc, rfl, hal, hpl, _, _, _, hatl, htxl, hargl, hpathl, hargs, hpath⟩ := h
  obtain ⟨ho, hga⟩ := goodXB_args hg (by rw [hop]; decide)
  have hl1 : x.args.length = 1 := by omega
  obtain ⟨y, hy⟩ : ∃ y, x.args = [y] := List.length_eq_one_iff.1 hl1
  have hR : holdP (treePT evs) (f + 1) v x = !holdP (treePT evs) f v y := by
    rw [holdP_succ, if_neg (by rw [hop]; decide), if_neg (by rw [hop]; decide), if_pos hop, hy]; rfl
  rw [hR]
  have hx0 : XsAt f w aa [y] := hy ▸ hargs
  obtain ⟨b, o, ya, yc, yp, yd, rfl, hb, hyx, hcs⟩ := hx0.get' 0 (by simp)
  have hb0 : ∀ o, Below w.heap.size w (w.alloc o) := fun o => (Below.refl _ _).alloc (Nat.le_refl _) _
  have hcs' := fun o => hcs (w.alloc o) (hb0 o)
  simp only [List.getElem_cons_zero, Nat.zero_mul, Nat.add_zero] at hcs'
  have k0 := fun o => (hcs' o).1
  have k1 := fun o => (hcs' o).2.1
  have k2 := fun o => (hcs' o).2.2.1
  have k3 := fun o => (hcs' o).2.2.2.1
  have k4 := fun o => (hcs' o).2.2.2.2.1
  have k5 := fun o => (hcs' o).2.2.2.2.2.1
  have k6 := fun o => (hcs' o).2.2.2.2.2.2
  have HDX : Hid (∀ W, Below w.heap.size w W → Calls Tryd.prog 25 #[.slice an (nodesB evs).length cn, .int .i64 v, .agg (exprC y ya yc yp yd).toArray] W fun e w' => e = .returned (.bool (holdP (treePT evs) f v y)) ∧ Below W.heap.size W w') := Lib.hid fun W hW =>
    HX v y _ W hv1 hv2 (hq.below hW) (XAt.turn hW (Nat.le_refl _) hyx) (hga y (by rw [hy]; exact List.mem_cons_self))
  have HB0 := Lib.hid hb0
  clear hb0 hargs hpath hR hatl htxl hg hga ho hcs hcs' hyx hx0 hb hy hq hv2 hal
  unfold exprC at HDX
  rw [hop, hl1]
  clear hop hl1
  generalize holdP (treePT evs) f v y = R at *
  generalize x.path.length = pl at *
  generalize (nodesB evs).length = L at *
  generalize strL x.attr = at3 at *
  generalize x.cmp = cm at *
  generalize strL x.text = tx at *
  generalize x.num = nu at *
  show Calls Tryd.prog 25 #[.slice an L cn, .int .i64 v, .agg #[.int .i64 2, .slice (some ⟨b, o, none⟩) 1 ac, .slice pa pl pc, .string at3, .int .i64 cm, .string tx, .int .i64 nu]] w _
  go_enter Tryd.func25, Tryd.ntmps25
  go_wp2_with fail
  (with_reducible refine (HDX.out _ (HB0.out _)).mono ?_)
  rintro e w2 ⟨rfl, hb2⟩
  have HB2 := Lib.hid ((HB0.out _).trans (hb2.mono (HB0.out _).size))
  clear hb2
  go_wp2_with fail
  go_ret
  exact ⟨rfl, HB2.out⟩
end Go.Proofs.YtekoflcioooncaaDoor
