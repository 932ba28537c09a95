/-
  gimletref12: Meets, Attr, all.
-/
import Derived.Test.YtekoflcioooncaaDoorMxZD
import Derived.BigQuiet
import Derived.Test.YtekoflcioooncaaDoorMxZA
namespace Go.Proofs.YtekoflcioooncaaDoor
open Go.RowKit

structure RQ (w : World) (an : Option Addr) (evs : List Ev) : Prop where
  nodes : RNodes w an evs
  whole : wholeB evs = true
  sm : ∀ e ∈ evs, EvSm e
  len : (nodesB evs).length ≤ 400
  texts : ∀ v i, v = ((i : Nat) : Int) ∨ v = -1 ∧ i = 0 → v < (nodesB evs).length → (txtR evs i (hiOf (nodesB evs).length (lastN evs) v)).length ≤ 1048576
theorem RQ.below {w w' : World} {an : Option Addr} {evs : List Ev} (h : RQ w an evs) (hb : Below w.heap.size w w') : RQ w' an evs := ⟨h.nodes.below hb, h.whole, h.sm, h.len, h.texts⟩
theorem node_kind {evs : List Ev} (h2 : wholeB evs = true) (h3 : ∀ e ∈ evs, EvSm e) (i : Nat) (hi : i < (nodesB evs).length) : ∃ x, (nodesB evs)[i]? = some x ∧ evs[x.pos]? = some (nodeEv evs i) ∧ EvSm (nodeEv evs i) ∧ ((nodeEv evs i).kind = 0 ∨ (nodeEv evs i).kind = 1) := by
  obtain ⟨t, ht, _, _⟩ := wholeB_some h2
  have hx : (nodesB evs)[i]? = some (nodesB evs)[i] := List.getElem?_eq_getElem hi
  have hinv := NdInv.start.all evs ht
  rw [List.nil_append] at hinv
  obtain ⟨e, he, hk, _⟩ := hinv.here i _ hx
  have hne : nodeEv evs i = e := by unfold nodeEv; rw [hx]; simp [he]
  refine ⟨_, hx, by rw [hne]; exact he, by rw [hne]; exact h3 _ (List.mem_of_getElem? he), ?_⟩
  rw [hne]
  obtain ⟨hp, hpe⟩ := List.getElem?_eq_some_iff.1 he
  obtain ⟨s, hs⟩ := begAll_take ht (nodesB evs)[i].pos
  have hok := (begAll_at ht _ hp hs).1
  rw [hpe] at hok
  exact (begOk_new hok hk).2
theorem RQ.node {w : World} {an : Option Addr} {evs : List Ev} (h : RQ w an evs) (i : Nat) (hi : i < (nodesB evs).length) : ∃ b A m c, an = some ⟨b, 0, none⟩ ∧ EvSm (nodeEv evs i) ∧ ((nodeEv evs i).kind = 0 ∨ (nodeEv evs i).kind = 1) ∧
    ∀ W, Below w.heap.size w W → AttrsAt W A m (nodeEv evs i).ats ∧ W.cell? ⟨b, i * 13, none⟩ = some (.int .i64 (nodeEv evs i).kind) ∧ W.cell? ⟨b, i * 13 + 3, none⟩ = some (.string (strL (nodeEv evs i).name)) ∧ W.cell? ⟨b, i * 13 + 4, none⟩ = some (.slice A m c) := by
  obtain ⟨x, hx, he, hsm, hk⟩ := node_kind h.whole h.sm i hi
  obtain ⟨b, e, A, m, c, h1, h2, h3, h4, h5, _⟩ := h.nodes i x hx
  obtain rfl : e = nodeEv evs i := by rw [he] at h3; exact (Option.some.inj h3).symm
  refine ⟨b, A, m, c, h1, hsm, hk, fun W hW => ⟨h4.below hW, ?_, ?_, ?_⟩⟩
  · exact (hW.cell (p := ⟨b, i * 13 + 0, none⟩) h2).trans (h5 0 (by decide))
  · exact (hW.cell (p := ⟨b, i * 13 + 3, none⟩) h2).trans (h5 3 (by decide))
  · exact (hW.cell (p := ⟨b, i * 13 + 4, none⟩) h2).trans (h5 4 (by decide))
set_option maxRecDepth 100000 in
set_option maxHeartbeats 4000000 in
theorem meets12_any {an : Option Addr} {cn : Nat} {evs : List Ev} (n : Int) (s : PS) (wa : Option Addr) (wc : Nat) (w : World) (h : RQ w an evs) (hn : n < (nodesB evs).length) :
    Calls Tryd.prog 37 #[.slice an (nodesB evs).length cn, .int .i64 n, .agg (stepC s wa wc).toArray] w fun e w' => e = .returned (.bool (meetsP (treePT evs) n s)) ∧ Below w.heap.size w w' := by
  obtain ⟨R, hR⟩ : ∃ R, meetsP (treePT evs) n s = R := ⟨_, rfl⟩
  rw [hR]
  have HR : Hid ((if s.test = 3 then true else if n < 0 then false
    else if s.test = 0 then decide ((nodeEv evs n.toNat).kind = 0) && decide ((nodeEv evs n.toNat).name = s.name)
    else if s.test = 1 then decide ((nodeEv evs n.toNat).kind = 0) else decide ((nodeEv evs n.toNat).kind = 1)) = R) := Lib.hid hR
  clear hR
  have hb0 : ∀ o, Below w.heap.size w (w.alloc o) := fun o => (Below.refl _ _).alloc (Nat.le_refl _) _
  have HB0 := Lib.hid hb0
  have HBD : Hid (∀ o d, Below w.heap.size w ((w.alloc o).drewN d)) := Lib.hid fun o d => Below.drewN (hb0 o) d
  unfold stepC at *
  generalize s.axis = ax at *
  generalize s.wher.length = wl at *
  by_cases h3 : s.test = 3
  · rw [if_pos h3] at HR
    generalize strL s.name = nm at *
    generalize s.test = te at *
    subst h3
    clear h hn hb0
    generalize (nodesB evs).length = L at *
    go_enter Tryd.func37, Tryd.ntmps37
    go_wp2_with fail
    go_ret
    exact ⟨ret_bool HR.out, HB0.out _⟩
  rw [if_neg h3] at HR
  have t3 : ((s.test : Int) == 3) = false := by simpa using h3
  by_cases hneg : n < 0
  · rw [if_pos hneg] at HR
    generalize strL s.name = nm at *
    generalize s.test = te at *
    clear h3 h hn hb0
    generalize (nodesB evs).length = L at *
    go_enter Tryd.func37, Tryd.ntmps37
    go_wp2_with fail
    go_ret
    exact ⟨ret_bool HR.out, HB0.out _⟩
  rw [if_neg hneg] at HR
  obtain ⟨i, rfl⟩ : ∃ i : Nat, n = (i : Int) := ⟨n.toNat, by omega⟩
  rw [Int.toNat_natCast] at HR
  have hil : i < (nodesB evs).length := by omega
  obtain ⟨b, A, m, c, rfl, _, hkd, hcs⟩ := h.node i hil
  have hcmp := strL_cmp (nodeEv evs i).name s.name
  have c0 := fun o => (hcs (w.alloc o) (hb0 o)).2.1
  have c3 := fun o => (hcs (w.alloc o) (hb0 o)).2.2.1
  have c0d := fun o d => (hcs ((w.alloc o).drewN d) (HBD.out o d)).2.1
  have c3d := fun o d => (hcs ((w.alloc o).drewN d) (HBD.out o d)).2.2.1
  have i1 : (0 : Int) ≤ (i : Int) := by omega
  have i2 : (i : Int) < ((nodesB evs).length : Int) := by omega
  clear h hn hb0 hil hneg hcs
  generalize (nodesB evs).length = L at *
  generalize nodeEv evs i = ev at *
  obtain ⟨kd, num, dep, name, ats, text, fr, tt⟩ := ev
  simp only at *
  generalize decide (name = s.name) = NE at *
  generalize strL name = nv at *
  generalize strL s.name = nm at *
  generalize s.test = te at *
  by_cases h0 : te = 0
  · subst h0
    rw [if_pos rfl] at HR
    rcases hkd with rfl | rfl
    · go_enter Tryd.func37, Tryd.ntmps37
      go_wp2_with fail
      go_quiet (fail)
      go_wp2_with fail
      go_ret
      exact ⟨ret_bool (by rw [← HR.out]; simp), HBD.out _ _⟩
    · go_enter Tryd.func37, Tryd.ntmps37
      go_wp2_with fail
      go_quiet (fail)
      go_wp2_with fail
      go_ret
      exact ⟨ret_bool (by rw [← HR.out]; simp), HBD.out _ _⟩
  · rw [if_neg h0] at HR
    have t0 : ((te : Int) == 0) = false := by simpa using h0
    by_cases h1 : te = 1
    · subst h1
      rw [if_pos rfl] at HR
      rcases hkd with rfl | rfl
      · go_enter Tryd.func37, Tryd.ntmps37
        go_wp2_with fail
        go_ret
        exact ⟨ret_bool (by rw [← HR.out]; simp), HB0.out _⟩
      · go_enter Tryd.func37, Tryd.ntmps37
        go_wp2_with fail
        go_ret
        exact ⟨ret_bool (by rw [← HR.out]; simp), HB0.out _⟩
    · rw [if_neg h1] at HR
      have t1 : ((te : Int) == 1) = false := by simpa using h1
      rcases hkd with rfl | rfl
      · go_enter Tryd.func37, Tryd.ntmps37
        go_wp2_with fail
        go_ret
        exact ⟨ret_bool (by rw [← HR.out]; simp), HB0.out _⟩
      · go_enter Tryd.func37, Tryd.ntmps37
        go_wp2_with fail
        go_ret
        exact ⟨ret_bool (by rw [← HR.out]; simp), HB0.out _⟩
def attrA (evs : List Ev) (n : Int) (nm : List UInt8) : Option (List UInt8) := if n < 0 then none else ((nodeEv evs n.toNat).ats.find? fun p => p.1 == nm).map (·.2)
set_option maxRecDepth 100000 in
set_option maxHeartbeats 4000000 in
theorem attr12_any {an : Option Addr} {cn : Nat} {evs : List Ev} (n : Int) (nm : List UInt8) (w : World) (h : RQ w an evs) (hn : n < (nodesB evs).length) :
    Calls Tryd.prog 51 #[.slice an (nodesB evs).length cn, .int .i64 n, .string (strL nm)] w fun e w' => e = .returned (.tuple #[.string (strL ((attrA evs n nm).getD [])), .bool (attrA evs n nm).isSome]) ∧ Below w.heap.size w w' := by
  by_cases hneg : n < 0
  · rw [show attrA evs n nm = none from if_pos hneg]
    clear h hn
    generalize (nodesB evs).length = L at *
    generalize strL nm = nv at *
    go_enter Tryd.func51, Tryd.ntmps51
    go_wp2_with fail
    go_ret2
    exact ⟨rfl, Below.refl _ _⟩
  obtain ⟨i, rfl⟩ : ∃ i : Nat, n = (i : Int) := ⟨n.toNat, by omega⟩
  have hil : i < (nodesB evs).length := by omega
  obtain ⟨b, A, m, c, rfl, hsm, _, hcs⟩ := h.node i hil
  have hRA : attrA evs (i : Int) nm = ((nodeEv evs i).ats.find? fun p => p.1 == nm).map (·.2) := by
    unfold attrA; rw [if_neg (by omega), Int.toNat_natCast]
  rw [hRA]
  have hml : m ≤ 1048576 := by rw [(hcs w (Below.refl _ _)).1.1]; exact hsm.2.2.1
  generalize (nodeEv evs i).ats = ats at *
  have HM : Hid (m = ats.length) := Lib.hid (hcs w (Below.refl _ _)).1.1
  obtain ⟨R, hR⟩ : ∃ R, (ats.find? fun p => p.1 == nm).map (·.2) = R := ⟨_, rfl⟩
  rw [hR]
  have HR := Lib.hid hR
  have HCS : Hid (∀ W, Below w.heap.size w W → W.cell? ⟨b, i * 13 + 4, none⟩ = some (.slice A m c)) := Lib.hid fun W hW => (hcs W hW).2.2.2
  have HAT : Hid (∀ j (hj : j < ats.length), ∃ b o, A = some ⟨b, o, none⟩ ∧ ∀ W, Below w.heap.size w W → W.cell? ⟨b, o + j * 2, none⟩ = some (.string (strL ats[j].1)) ∧ W.cell? ⟨b, o + j * 2 + 1, none⟩ = some (.string (strL ats[j].2))) := Lib.hid fun j hj => by
    obtain ⟨b, o, e, hlt, h1, h2⟩ := (hcs w (Below.refl _ _)).1.2 j hj
    exact ⟨b, o, e, fun W hW => ⟨(hW.cell (p := ⟨b, o + j * 2, none⟩) hlt).trans h1, (hW.cell (p := ⟨b, o + j * 2 + 1, none⟩) hlt).trans h2⟩⟩
  have i1 : (0 : Int) ≤ (i : Int) := by omega
  have i2 : (i : Int) < ((nodesB evs).length : Int) := by omega
  clear h hn hil hneg hcs hRA hR hsm
  generalize (nodesB evs).length = L at *
  go_enter Tryd.func51, Tryd.ntmps51
  go_wp2_with fail
  go_loopw [8] (fun jv wr => ∃ j : Nat, jv = .int .i64 j ∧ j ≤ m ∧ Hid ((ats.take j).find? (fun p => p.1 == nm) = none ∧ Below w.heap.size w wr)) (fun jv _ => m - (intOf jv).toNat)
  case atStart => exact ⟨0, rfl, Nat.zero_le _, Lib.hid ⟨rfl, Below.refl _ _⟩⟩
  case round =>
    obtain ⟨j, rfl, hjm, HJ⟩ := hrel
    have c4 := HCS.out wr HJ.out.2
    have j1 : (0 : Int) ≤ (j : Int) := by omega
    have ewj : IntKind.i64.wrap ((j : Int) + 1) = (j : Int) + 1 := IntWalk.i64_in _ (by omega)
    by_cases hj : j < m
    · have j2 : (j : Int) < (m : Int) := by omega
      have hjl : j < ats.length := by rw [← HM.out]; exact hj
      obtain ⟨b2, o2, rfl, hc⟩ := HAT.out j hjl
      obtain ⟨d0, d1⟩ := hc wr HJ.out.2
      have hcmp := strL_cmp ats[j].1 nm
      by_cases he : ats[j].1 = nm
      · rw [decide_eq_true he] at hcmp
        have HF : Hid (R = some ats[j].2) := Lib.hid (by
          rw [← HR.out]
          have h1 : ats = ats.take j ++ ats[j] :: ats.drop (j + 1) := by rw [← List.drop_eq_getElem_cons hjl, List.take_append_drop]
          have h3 : (ats[j].1 == nm) = true := by simp [he]
          have h2 : (ats.take j ++ ats[j] :: ats.drop (j + 1)).find? (fun p => p.1 == nm) = some ats[j] := by
            rw [List.find?_append, HJ.out.1, List.find?_cons, h3]; rfl
          rw [← h1] at h2
          rw [h2]; rfl)
        clear hc he
        generalize strL ats[j].1 = q1 at *
        generalize hq2 : strL ats[j].2 = q2 at *
        have HQ2 := Lib.hid hq2
        clear hq2
        generalize strL nm = nv at *
        go_wp2_with fail
        go_ret2
        exact ⟨by rw [HF.out]; show _ = Ending.returned (.tuple #[.string (strL ats[j].2), .bool true]); rw [HQ2.out]; rfl, HJ.out.2⟩
      · rw [decide_eq_false he] at hcmp
        have HNX : Hid ((ats.take (j + 1)).find? (fun p => p.1 == nm) = none) := Lib.hid (by
          have h3 : (ats[j].1 == nm) = false := by simp [he]
          rw [List.take_succ_eq_append_getElem hjl, List.find?_append, HJ.out.1, List.find?_cons, h3]; rfl)
        clear hc he
        generalize strL ats[j].1 = q1 at *
        generalize strL ats[j].2 = q2 at *
        generalize strL nm = nv at *
        go_wp2_with fail
        go_roundw
        case rel => exact ⟨j + 1, by go_num, by omega, Lib.hid ⟨HNX.out, HJ.out.2⟩⟩
        case measure => simp [intOf]; omega
    · have j4 : (m : Int) ≤ (j : Int) := by omega
      have HF : Hid (R = none) := Lib.hid (by
        rw [← HR.out]
        have h1 := HJ.out.1
        rw [List.take_of_length_le (by rw [← HM.out]; omega)] at h1
        rw [h1]; rfl)
      generalize strL nm = nv at *
      go_wp2_with fail
      go_ret2
      exact ⟨by rw [HF.out]; rfl, HJ.out.2⟩
def HoldR (an : Option Addr) (cn : Nat) (evs : List Ev) (f : Nat) : Prop := ∀ (v : Int) (x : PX) (cs : List Value) (W : World), -1 ≤ v → v < (nodesB evs).length → RQ W an evs → XAt f W x cs → goodXB f x = true →
  Calls Tryd.prog 25 #[.slice an (nodesB evs).length cn, .int .i64 v, .agg cs.toArray] W fun e w' => e = .returned (.bool (holdP (treePT evs) f v x)) ∧ Below W.heap.size W w'
set_option maxRecDepth 100000 in
set_option maxHeartbeats 4000000 in
theorem all12_of {an : Option Addr} {cn : Nat} {evs : List Ev} {f : Nat} (HX : HoldR an cn evs f) (v : Int) (l : List PX) (la : Option Addr) (lc : Nat) (w : World) (hv1 : -1 ≤ v) (hv2 : v < (nodesB evs).length) (hq : RQ w an evs) (hx : XsAt f w la l) (hn : l.length ≤ 1048576) (hg : l.all (goodXB f) = true) :
    Calls Tryd.prog 38 #[.slice an (nodesB evs).length cn, .int .i64 v, .slice la l.length lc] w fun e w' => e = .returned (.bool (l.all (holdP (treePT evs) f v))) ∧ Below w.heap.size w w' := by
  have HROW := Lib.hid hx
  have HG : Hid (∀ x ∈ l, goodXB f x = true) := Lib.hid (List.all_eq_true.1 hg)
  have HCA : Hid (∀ (x : PX) (cs : List Value) (W : World), x ∈ l → Below w.heap.size w W → XAt f W x cs → Calls Tryd.prog 25 #[.slice an (nodesB evs).length cn, .int .i64 v, .agg cs.toArray] W fun e w' => e = .returned (.bool (holdP (treePT evs) f v x)) ∧ Below W.heap.size W w') := Lib.hid fun x cs W hxl hW hxa =>
    HX v x cs W hv1 hv2 (hq.below hW) hxa (HG.out x hxl)
  obtain ⟨R, hR⟩ : ∃ R, l.all (holdP (treePT evs) f v) = R := ⟨_, rfl⟩
  rw [hR]
  have HT : Hid ((∀ x ∈ l, holdP (treePT evs) f v x = true) → true = R) := Lib.hid fun h => by rw [← hR]; exact (List.all_eq_true.2 h).symm
  have HF : Hid (∀ x ∈ l, holdP (treePT evs) f v x = false → false = R) := Lib.hid fun x hxl hf => by
    rw [← hR]
    cases hall : l.all (holdP (treePT evs) f v) with
    | false => rfl
    | true => rw [List.all_eq_true.1 hall x hxl] at hf; cases hf
  clear hR hx hg hq hv2
  generalize hq : l.length = q at *
  have HQQ := Lib.hid hq
  clear hq
  generalize (nodesB evs).length = L at *
  go_enter Tryd.func38, Tryd.ntmps38
  go_wp2_with fail
  go_loopw [7] (fun jv wr => ∃ j : Nat, jv = .int .i64 j ∧ j ≤ q ∧ Hid ((∀ i (hi : i < l.length), i < j → holdP (treePT evs) f v l[i] = true) ∧ Below w.heap.size w wr)) (fun jv _ => q - (intOf jv).toNat)
  case atStart => exact ⟨0, rfl, Nat.zero_le _, Lib.hid ⟨fun _ _ h => absurd h (Nat.not_lt_zero _), Below.refl _ _⟩⟩
  case round =>
    obtain ⟨j, rfl, hjq, HJ⟩ := hrel
    by_cases hjl : j < q
    · have hjw : j < l.length := by rw [HQQ.out]; exact hjl
      obtain ⟨b2, o2, ya, yc, yp, yd, rfl, hb2, hx, hcs⟩ := HROW.out.get' j hjw
      obtain ⟨x0, x1, x2, x3, x4, x5, x6⟩ := hcs wr HJ.out.2
      have HMEM : Hid (l[j] ∈ l) := Lib.hid (List.getElem_mem hjw)
      have HNX : Hid (holdP (treePT evs) f v l[j] = true → ∀ i (hi : i < l.length), i < j + 1 → holdP (treePT evs) f v l[i] = true) := Lib.hid fun h2 i hi hij => by
        rcases Nat.lt_or_ge i j with h | h
        · exact HJ.out.1 i hi h
        · have : i = j := by omega
          subst this; exact h2
      have HDX : Hid (∀ W, Below w.heap.size w W → Calls Tryd.prog 25 #[.slice an L cn, .int .i64 v, .agg (exprC l[j] ya yc yp yd).toArray] W fun e w' => e = .returned (.bool (holdP (treePT evs) f v l[j])) ∧ Below W.heap.size W w') := Lib.hid fun W hW =>
        HCA.out l[j] _ W (List.getElem_mem hjw) hW (XAt.turn hW (Nat.le_refl _) hx)
      clear hcs hx hb2
      generalize l[j] = y at *
      unfold exprC at HDX
      generalize hhv : holdP (treePT evs) f v y = hb at *
      have i3 : (0 : Int) ≤ (j : Int) := by omega
      have i4 : (j : Int) < (q : Int) := by omega
      have ewj : IntKind.i64.wrap ((j : Int) + 1) = (j : Int) + 1 := IntWalk.i64_in _ (by omega)
      have HHV := Lib.hid hhv
      clear hhv
      go_wp2_with fail
      (with_reducible refine (HDX.out _ HJ.out.2).mono ?_)
      rintro e w15 ⟨rfl, hb15⟩
      have HB16 : Hid (Below w.heap.size w w15) := Lib.hid (HJ.out.2.trans (hb15.mono HJ.out.2.size))
      clear hb15
      cases hb with
      | true =>
        have HN := Lib.hid (HNX.out rfl)
        go_wp2_with fail
        go_roundw
        case rel => exact ⟨j + 1, by go_num, by omega, Lib.hid ⟨HN.out, HB16.out⟩⟩
        case measure => simp [intOf]; omega
      | false =>
        have HFF := Lib.hid (HF.out y HMEM.out HHV.out)
        go_wp2_with fail
        go_ret
        exact ⟨ret_bool HFF.out, HB16.out⟩
    · have i4 : (q : Int) ≤ (j : Int) := by omega
      have HTT : Hid (true = R) := Lib.hid (HT.out fun x hx => by
        obtain ⟨i, hi, rfl⟩ := List.getElem_of_mem hx
        exact HJ.out.1 i hi (by have := HQQ.out; omega))
      go_wp2_with fail
      go_ret
      exact ⟨ret_bool HTT.out, HJ.out.2⟩
end Go.Proofs.YtekoflcioooncaaDoor

namespace Go.Proofs.YtekoflcioooncaaDoor
open Go.RowKit

theorem app_next {w wq w7 : World} {o : List Int} {on : Nat} {v v7 : Value} {x : Int} {ob : Obj} (hl : o.length = on) (hB : Below w.heap.size w wq) (ho : wq.ownsRow w.heap.size 3 1 v on (o.map (Value.int .i64))) (h7 : w7.ownsRow w.heap.size 3 1 v7 (on + 1) (o.map (Value.int .i64) ++ [.int .i64 x])) (ha : App (wq.alloc ob) w7 v v7) :
    Hid (Below w.heap.size w w7 ∧ w7.ownsRow w.heap.size 3 1 v7 (o ++ [x]).length ((o ++ [x]).map (Value.int .i64))) := by
  refine Lib.hid ⟨(hB.alloc hB.size _).trans (ha.below (by have := hB.size; simp; omega) (fun j hj' => (ho.lt j hj').1)), ?_⟩
  rw [List.length_append, List.length_singleton, hl, List.map_append]
  exact h7
theorem own_ints2 {w : World} {base n : Nat} {e : TypeId} {v : Value} {l : List Int} (h : w.ownsRow base e 1 v n (l.map (Value.int .i64))) : ∃ a c, v = .slice a n c ∧ n ≤ c ∧ IntsAt w a n l ∧ ∀ ad, a = some ad → base ≤ ad.block := by
  obtain ⟨a, c, rfl, h1, h2⟩ := own_ints h
  refine ⟨a, c, rfl, h1, h2, fun ad hd => ?_⟩
  obtain ⟨a', c', e2, _, _, h3⟩ := own_slice h
  cases e2
  obtain ⟨g, rfl, hg, _⟩ := h3 ad hd
  exact hg
theorem IntsAt.far {w : World} {a : Option Addr} {n : Nat} {l : List Int} (h : IntsAt w a n l) {P j : Nat} (hne : ∀ ad, a = some ad → ad.block ≠ P) (v : Value) : IntsAt (w.setCell ⟨P, j, none⟩ v) a n l :=
  ⟨h.len, fun i hi => by
    obtain ⟨b, o, e, hlt, hc⟩ := h.at' i hi
    refine ⟨b, o, e, by rw [show (w.setCell ⟨P, j, none⟩ v).heap.size = w.heap.size by simp [World.setCell]]; exact hlt, ?_⟩
    rw [← hc]
    unfold World.cell?
    rw [Below.heap_setCell _ _ _ _ (show b ≠ P from hne _ e)]⟩
end Go.Proofs.YtekoflcioooncaaDoor
