/-
  gimletlaw21.TapeForms: the walk.
-/
import Derived.Test.YtgnpbckjdlhkjaaGreatDoorFmK
import Derived.Test.YtgnpbckjdlhkjaaGreatDoorFmL
import Derived.Test.YtgnpbckjdlhkjaaGreatDoorFmU
import Derived.Test.YtgnpbckjdlhkjaaGreatDoorFmV
import Derived.Test.YtgnpbckjdlhkjaaGreatDoorFmW
namespace Go.Proofs.YtgnpbckjdlhkjaaGreatDoor
open Go.RowKit

theorem evSm_of (e : Ev) (h : wtE e ≤ 1048576) : EvSm e := by
  unfold wtE at h
  have := wtA_length e.ats
  exact ⟨by omega, by omega, by omega, fun p hp => by have := wtA_mem e.ats p hp; omega⟩
/-- the tape behind the first kt events, the places of the first kf events' nodes; W0: the world in which the tree had been built -/
structure FInv (W0 : World) (tb : Nat) (evs : List Ev) (kt kf : Nat) (fv : Value) (W : World) : Prop where
  lt : tb < W0.heap.size
  tape : TapeAt W W0.heap.size tb ((evs.take kt).flatMap evOut) 0 0
  size : W0.heap.size ≤ W.heap.size
  block : ∀ j, j < W0.heap.size → j ≠ tb → W.heap[j]? = W0.heap[j]?
  frm : W.ownsRow W0.heap.size 3 1 fv (nodesB (evs.take kf)).length (fromC evs (nodesB (evs.take kf)))
variable {W0 W W' : World} {tb td B : Nat} {evs : List Ev} {kt kt' kf kf' : Nat} {fv fv' : Value}
theorem FInv.below (h : FInv W0 tb evs kt kf fv W) (hb : Below W.heap.size W W') : FInv W0 tb evs kt kf fv W' :=
  ⟨h.lt, h.tape.below hb, Nat.le_trans h.size hb.size, fun j h1 h2 => (hb.block j (Nat.lt_of_lt_of_le h1 h.size)).trans (h.block j h1 h2), own_block h.frm (fun k hk => hb.block k (h.frm.lt k hk).2)⟩
theorem FInv.tree (h : FInv W0 tb evs kt kf fv W) (ht : TreeAt W0 B td evs) (hB : tb < B) : TreeAt W B td evs :=
  ht.keep h.size fun j h1 h2 => h.block j h2 (by omega)
theorem FInv.push (h : FInv W0 tb evs kt kf fv W) (ha : App W W' fv fv') (hf : W'.ownsRow W0.heap.size 3 1 fv' (nodesB (evs.take kf')).length (fromC evs (nodesB (evs.take kf')))) : FInv W0 tb evs kt kf' fv' W' := by
  have hfl := h.frm.lt
  have hs := h.size
  have hl := h.lt
  obtain ⟨a1, a2, a3, a4, a5, v, a6, a7⟩ := h.tape
  have hg := ha.grown.size
  refine ⟨h.lt, ⟨a1, by omega, a3, a4, a5, v, (ha.keep (by omega) (fun e => by have := (hfl _ e).1; omega)).trans a6, own_block a7 (fun k hk => ha.keep (a7.lt k hk).2 (fun e => own_ne a7 h.frm (by decide) k hk e))⟩, by omega, fun j h1 h2 => (ha.keep (by omega) (fun e => by have := (hfl _ e).1; omega)).trans (h.block j h1 h2), hf⟩
theorem FInv.add (h : FInv W0 tb evs kt kf fv W) (hm : MovT tb W W') (ht : TapeAt W' W0.heap.size tb ((evs.take kt').flatMap evOut) 0 0) : FInv W0 tb evs kt' kf fv W' := by
  have hfl := h.frm.lt
  have hs := h.size
  have hl := h.lt
  have hms := hm.size
  obtain ⟨a1, a2, a3, a4, a5, v, a6, a7⟩ := h.tape
  have hrow : ∀ k, TapeRow W tb k → v.ownBlock = some k := fun k ⟨u, h1, h2⟩ => by
    rw [cell_heap a6] at h1
    cases h1
    exact h2
  refine ⟨h.lt, ht, by omega, fun j h1 h2 => (hm.block j (by omega) h2 (fun hr => by have := (a7.lt _ (hrow _ hr)).1; omega)).trans (h.block j h1 h2), own_block h.frm (fun k hk => hm.block k (hfl k hk).2 (fun e => by have := (hfl k hk).1; omega) (fun hr => own_ne a7 h.frm (by decide) k (hrow _ hr) hk))⟩
theorem FInv.notRow (h : FInv W0 tb evs kt kf fv W) {j : Nat} {c : Array Value} {fz : Nat × Nat} (hj : W.heap[j]? = some (.cells c 36 fz)) : ¬ TapeRow W tb j := by
  rintro ⟨u, h1, h2⟩
  obtain ⟨a1, a2, a3, a4, a5, v, a6, a7⟩ := h.tape
  rw [cell_heap a6] at h1
  cases h1
  exact own_not a7 hj (by decide) h2
theorem FInv.bel (h : FInv W0 tb evs kt kf fv W) (hm : MovT tb W W') : Below tb W W' :=
  ⟨hm.os, hm.tape, hm.output, hm.size, fun j hj => hm.block j (by have := h.size; have := h.lt; omega) (by omega) (fun ⟨u, h1, h2⟩ => by
    obtain ⟨a1, a2, a3, a4, a5, v, a6, a7⟩ := h.tape
    rw [cell_heap a6] at h1
    cases h1
    have := (a7.lt _ h2).1
    have := h.lt
    omega)⟩
set_option maxRecDepth 1000000 in
set_option maxHeartbeats 8000000 in
theorem forms_any (a : Option Addr) (n c : Nat) (evs : List Ev) (w : World) (hE : EvsAt w a n evs) (hw : wtEs evs ≤ 1048576) (hR : RangesAt w 2) (hT : Lib.Utf8Tabs 0 1 w) :
    Calls Tryz.prog 3 #[.slice a n c] w fun e w' => e = .returned (.bool true) ∧ Below w.heap.size w w' := by
  obtain ⟨j0, hj, hjz0, hjz1, hjz2⟩ := info_parts infoInt
  have hn : n ≤ 1048576 := by have := wtEs_length evs; have := hE.1; omega
  have hsm : ∀ e ∈ evs, wtE e ≤ 1048576 := fun e he => by
    obtain ⟨i, hi, rfl⟩ := List.getElem_of_mem he
    exact Nat.le_trans (wtEs_mem evs i hi) hw
  have HE := Lib.hid hE
  have HN : Hid (n = evs.length) := Lib.hid hE.1
  have HSM := Lib.hid hsm
  have HW := Lib.hid hw
  have HBEG : Hid (∀ W, Below w.heap.size w W → Calls Tryz.prog 6 #[.slice a n c] W fun e w' => e = retB (begR evs) ∧ Below W.heap.size W w') := Lib.hid fun W hW => begin_any a n c evs W (hE.below hW) hn (fun e he => evSm_of e (hsm e he))
  have HBLD : Hid (wholeB evs = true → ∀ W, Below w.heap.size w W → Calls Tryz.prog 7 #[.slice a n c] W fun e w' => ∃ tb, e = .returned (.tuple #[.pointer (some ⟨tb, 0, none⟩), .int .i64 0]) ∧ TreeAt w' W.heap.size tb evs ∧ Below W.heap.size W w') :=
    Lib.hid fun h W hW => build_ok a n c evs W (hE.below hW) h hn (fun e he => evSm_of e (hsm e he)) (hR.below hW) (Utf8Tabs_below hT hW)
  have HNEW := Lib.hid (tape_new w)
  clear hE hsm hw hR hT
  go_enter Tryz.func3, Tryz.ntmps3
  go_wp2_with fail
  (with_reducible refine HNEW.out.mono ?_)
  rintro e w1 ⟨rfl, rfl⟩
  have HT0 : Hid (TapeAt (w.alloc (.cells #[.slice none 0 0, .int .i64 0, .int .i64 0] 46)) (w.heap.size + 1) w.heap.size [] 0 0 ∧ Below w.heap.size w (w.alloc (.cells #[.slice none 0 0, .int .i64 0, .int .i64 0] 46)) ∧ (w.alloc (.cells #[.slice none 0 0, .int .i64 0, .int .i64 0] 46)).heap.size = w.heap.size + 1 ∧ (w.alloc (.cells #[.slice none 0 0, .int .i64 0, .int .i64 0] 46)).heap[w.heap.size]? = some (.cells #[.slice none 0 0, .int .i64 0, .int .i64 0] 46 (0, 0))) := Lib.hid ⟨by
    have h := tapeAt_new (w := w) (w' := w.alloc (.cells #[.slice none 0 0, .int .i64 0, .int .i64 0] 46)) (by simp) (heap_alloc_new w _)
    simpa using h, (Below.refl _ _).alloc (Nat.le_refl _) _, by simp, heap_alloc_new w _⟩
  generalize w.alloc (.cells #[.slice none 0 0, .int .i64 0, .int .i64 0] 46) = W1 at *
  go_wp2_with fail
  (with_reducible refine (awake21_any W1).mono ?_)
  rintro e W2 ⟨rfl, hb2⟩
  have HB2 := Lib.hid hb2
  have HBW2 := Lib.hid (HT0.out.2.1.trans (hb2.mono HT0.out.2.1.size))
  clear hb2
  go_wp2_with fail
  (with_reducible refine (HBEG.out W2 HBW2.out).mono ?_)
  rintro e W3 ⟨rfl, hb3⟩
  have HB3 := Lib.hid (HB2.out.trans (hb3.mono HB2.out.size))
  have HBW3 := Lib.hid (HBW2.out.trans (hb3.mono HBW2.out.size))
  clear hb3
  cases hok : wholeB evs with
  | false =>
    obtain ⟨b1, nn, b3, hbr, hb13⟩ : ∃ (b1 : Bool) (nn : Int) (b3 : Bool), begR evs = (b1, nn, b3) ∧ (b1 && b3) = false := by
      unfold wholeB at hok
      unfold begR
      cases hst : begAll beg0 evs with
      | none => exact ⟨false, 0, false, rfl, rfl⟩
      | some s => rw [hst] at hok; exact ⟨true, _, _, rfl, by rw [Bool.true_and]; exact hok⟩
    rw [hbr]
    unfold retB
    clear hbr hok
    cases b1 with
    | false =>
      go_wp2_with fail
      go_ret
      exact ⟨rfl, HBW3.out⟩
    | true =>
      rw [Bool.true_and] at hb13
      subst hb13
      go_wp2_with fail
      go_ret
      exact ⟨rfl, HBW3.out⟩
  | true =>
    have HBK := Lib.hid (HBLD.out hok)
    obtain ⟨st, hst, hne, hop⟩ : ∃ st, begAll beg0 evs = some st ∧ evs ≠ [] ∧ st.opn = [] := by
      unfold wholeB at hok
      cases hst : begAll beg0 evs with
      | none => rw [hst] at hok; cases hok
      | some st => rw [hst] at hok; simp only [decide_eq_true_eq] at hok; exact ⟨st, rfl, hok⟩
    have hbr : begR evs = (true, 0, true) := by rw [begR_all hst, hop, decide_eq_true ⟨hne, rfl⟩]; rfl
    have HPOS := Lib.hid (form_pos hok)
    have HST := Lib.hid hst
    rw [hbr]
    unfold retB
    clear hbr hst hne hop hok
    by_cases h4 : 400 < n
    · go_wp2_with fail
      go_ret
      exact ⟨rfl, HBW3.out⟩
    · have h4b : n ≤ 400 := by omega
      clear h4
      go_wp2_with fail
      (with_reducible refine (HBK.out W3 HBW3.out).mono ?_)
      rintro e W0 ⟨td, rfl, htree, hb4⟩
      have HB0 := Lib.hid (HB3.out.trans (hb4.mono HB3.out.size))
      have HBW0 := Lib.hid (HBW3.out.trans (hb4.mono HBW3.out.size))
      have HTREE := Lib.hid htree
      clear hb4 htree
      have hsz0 : w.heap.size < W0.heap.size := by have := HB0.out.size; have := HT0.out.2.2.1; omega
      have HF0 : Hid (FInv W0 w.heap.size evs 0 0 (.slice none 0 0) W0) := Lib.hid ⟨hsz0, tapeAt_new hsz0 ((HB0.out.block w.heap.size (by have := HT0.out.2.2.1; omega)).trans HT0.out.2.2.2), Nat.le_refl _, fun _ _ _ => rfl, World.ownsRow_nil _ _ _ _⟩
      have HBT : Hid (w.heap.size < W3.heap.size) := Lib.hid (by have := HB3.out.size; have := HT0.out.2.2.1; omega)
      go_wp2_with fail
      go_loopw [9, 10] (fun fv kv wr => ∃ k : Nat, kv = .int .i64 k ∧ k ≤ n ∧ Below w.heap.size w wr ∧ Hid (FInv W0 w.heap.size evs k k fv wr)) (fun _ kv _ => n - (intOf kv).toNat)
      case atStart => exact ⟨0, rfl, Nat.zero_le _, HBW0.out, HF0⟩
      case round =>
        obtain ⟨k, rfl, hk, hbr, hf⟩ := hrel
        by_cases hkn : k < n
        · have hkl : k < evs.length := by rw [← HN.out]; exact hkn
          obtain ⟨s, hs⟩ := begAll_take HST.out k
          have hnew := fromC_new hs hkl
          have hold := fromC_old hs hkl
          have hend := node_end HST.out hkl
          have hfl := flat_drop evOut evs k hkl
          have hpl := placeP_succ evs k hkl
          have hnl := nodes_len hs
          have hwt := HSM.out _ (List.getElem_mem hkl)
          have hk3 : evs[k].kind = 0 ∨ evs[k].kind = 1 ∨ evs[k].kind = 2 := by
            by_cases h2 : evs[k].kind = 2
            · exact .inr (.inr h2)
            · rcases (begOk_new (begAll_at HST.out k hkl hs).1 h2).2 with h | h
              · exact .inl h
              · exact .inr (.inl h)
          obtain ⟨b, o, A, m, c', rfl, hb, hmc, hA, hcells⟩ := HE.out.at8 k hkl
          obtain ⟨e0, e1, e2, e3, e4, e5, e6, e7⟩ := hcells wr hbr
          generalize evs[k] = e at *
          have HK3 := Lib.hid hk3
          clear hk3
          have HK := Lib.hid (⟨hnew, hold, hend, hfl, hpl, hnl, hwt⟩ : _ ∧ _ ∧ _ ∧ _ ∧ _ ∧ _ ∧ _)
          have HEVC : Hid (∀ W, Below w.heap.size w W → EvCells W (evC e.kind e.num e.dep e.name A m c' e.text e.fr e.tt).toList e) := Lib.hid fun W hW => ⟨A, m, c', rfl, hmc, hA.below hW⟩
          have HB1 : Hid (∀ o, Below w.heap.size w (wr.alloc o) ∧ FInv W0 w.heap.size evs k k u9 (wr.alloc o) ∧ (wr.alloc o).heap[wr.heap.size]? = some o ∧ (wr.alloc o).heap.size = wr.heap.size + 1) := Lib.hid fun o => ⟨hbr.alloc hbr.size o, hf.out.below ((Below.refl _ _).alloc (Nat.le_refl _) o), heap_alloc_new wr o, by simp⟩
          have HBL : Hid (wr.heap.size ≠ w.heap.size) := Lib.hid (by have := hf.out.size; have := hf.out.lt; omega)
          clear hnew hold hend hfl hpl hnl hwt hcells hA hmc hb hbr hf hs
          by_cases h2 : e.kind = 2
          · have hkd := h2
            rw [hkd] at e0
            obtain ⟨q1, q2, q3, q4⟩ := HB1.out (.cells #[.int .i64 2, .int .i64 e.num, .int .i64 e.dep, .string (strL e.name), .slice A m c', .string (strL e.text), .int .i64 e.fr, .int .i64 e.tt] 36)
            obtain ⟨w6, hw6⟩ : ∃ w6, w6 = wr.alloc (.cells #[.int .i64 2, .int .i64 e.num, .int .i64 e.dep, .string (strL e.name), .slice A m c', .string (strL e.text), .int .i64 e.fr, .int .i64 e.tt] 36) := ⟨_, rfl⟩
            rw [← hw6] at q1 q2 q3 q4
            have HF6 : Hid (FInv W0 w.heap.size evs k (k + 1) u9 w6) := Lib.hid ⟨q2.lt, q2.tape, q2.size, q2.block, by
              have h := HK.out.2.1 hkd
              have hl : (nodesB (evs.take (k + 1))).length = (nodesB (evs.take k)).length := by rw [← fromC_length evs, h, fromC_length]
              rw [h, hl]
              exact q2.frm⟩
            have HBW6 := Lib.hid q1
            have HEB6 := Lib.hid q3
            clear q1 q2 q3 q4
            go_wp2_with fail
            rw [← hw6]
            clear hw6 e0 e1 e2 e3 e4 e5 e6 e7
            have e0 : w6.cell? ⟨wr.heap.size, 0, none⟩ = some (.int .i64 2) := by rw [cell_heap HEB6.out]; rfl
            have e1 : w6.cell? ⟨wr.heap.size, 1, none⟩ = some (.int .i64 e.num) := by rw [cell_heap HEB6.out]; rfl
            have e2 : w6.cell? ⟨wr.heap.size, 2, none⟩ = some (.int .i64 e.dep) := by rw [cell_heap HEB6.out]; rfl
            have e3 : w6.cell? ⟨wr.heap.size, 3, none⟩ = some (.string (strL e.name)) := by rw [cell_heap HEB6.out]; rfl
            have e4 : w6.cell? ⟨wr.heap.size, 4, none⟩ = some (.slice A m c') := by rw [cell_heap HEB6.out]; rfl
            have e5 : w6.cell? ⟨wr.heap.size, 5, none⟩ = some (.string (strL e.text)) := by rw [cell_heap HEB6.out]; rfl
            have e6 : w6.cell? ⟨wr.heap.size, 6, none⟩ = some (.int .i64 e.fr) := by rw [cell_heap HEB6.out]; rfl
            have e7 : w6.cell? ⟨wr.heap.size, 7, none⟩ = some (.int .i64 e.tt) := by rw [cell_heap HEB6.out]; rfl
            have HADD : Hid (Calls Tryz.prog 9 #[.pointer (some ⟨w.heap.size, 0, none⟩), .agg #[.int .i64 2, .int .i64 e.num, .int .i64 e.dep, .string (strL e.name), .slice A m c', .string (strL e.text), .int .i64 e.fr, .int .i64 e.tt]] w6 fun r w' => r = .returned (.int .i64 0) ∧ TapeAt w' W0.heap.size w.heap.size ((evs.take (k + 1)).flatMap evOut) 0 0 ∧ MovT w.heap.size w6 w') := Lib.hid (by
              have h := tape_add2 W0.heap.size w.heap.size ((evs.take k).flatMap evOut) 0 0 2 e.num e.dep e.fr e.tt e.name e.text A m c' (evOut e) w6 HF6.out.tape (fun w1 hb => by
                have h := Event_cells (HEVC.out w1 (HBW6.out.trans (hb.mono HBW6.out.size))) HK.out.2.2.2.2.2.2
                rw [hkd] at h
                exact h) (by have h1 := outs_take evs (k + 1); have h2 := outs_len evs; have h3 := HW.out; rw [HK.out.2.2.2.1, List.length_append] at h1; omega)
              rw [HK.out.2.2.2.1]
              exact h)
            go_wp2_with fail
            (with_reducible refine HADD.out.mono ?_)
            rintro r w7 ⟨rfl, ht7, hm7⟩
            have HF7 := Lib.hid (HF6.out.add hm7 ht7)
            have HBW7 := Lib.hid (HBW6.out.trans (HF6.out.bel hm7))
            have HEB7 := Lib.hid ((hm7.block wr.heap.size (heap_lt HEB6.out) HBL.out (HF6.out.notRow HEB6.out)).trans HEB6.out)
            clear e0 e1 e2 e3 e4 e5 e6 e7 ht7 hm7
            have g0 : w7.cell? ⟨wr.heap.size, 0, none⟩ = some (.int .i64 2) := by rw [cell_heap HEB7.out]; rfl
            obtain ⟨j, x, hnum, hx, hfin, hpx, hfle, hjl, hfrom⟩ := HK.out.2.2.1 (by omega)
            obtain ⟨of, cf, hof, hcf, hof0, hofs⟩ := own_slice HF7.out.frm
            subst hof
            obtain ⟨gf, hgf⟩ : ∃ gf, of = some ⟨gf, 0, none⟩ := by
              cases of with
              | none => have := hof0 rfl; omega
              | some ad => obtain ⟨g, rfl, _⟩ := hofs ad rfl; exact ⟨g, rfl⟩
            subst hgf
            have hgfw : gf < w7.heap.size := (HF7.out.frm.lt gf rfl).2
            have hgc : w7.cell? ⟨gf, j, none⟩ = some (.int .i64 (placeP evs x.pos : Nat)) := by rw [HF7.out.frm.cellAt j (by omega), hfrom]
            have hebw : wr.heap.size < w7.heap.size := heap_lt HEB7.out
            have HS : Hid (∀ w', Below w7.heap.size w7 w' → w'.cell? ⟨wr.heap.size, 1, none⟩ = some (.int .i64 (j : Int)) ∧ w'.cell? ⟨gf, j, none⟩ = some (.int .i64 (placeP evs x.pos : Nat)) ∧ Below w7.heap.size w7 w') := Lib.hid fun w' hb => ⟨by rw [hb.cell (p := ⟨wr.heap.size, 1, none⟩) hebw, cell_heap HEB7.out, ← hnum]; rfl, (hb.cell (p := ⟨gf, j, none⟩) hgfw).trans hgc, hb⟩
            have HPLC : Hid (∀ w', Below w7.heap.size w7 w' → Calls Tryz.prog 8 #[.pointer (some ⟨w.heap.size, 0, none⟩)] w' fun e w'' => e = .returned (.int .i64 (placeP evs (k + 1) : Nat)) ∧ Below w7.heap.size w7 w'') := Lib.hid fun w' hb => (tape_place _ _ _ _ _ w' (HF7.out.tape.below hb)).mono fun e w'' ⟨h1, d, h2⟩ => ⟨h1, by rw [h2]; exact Below.drewN hb d⟩
            have HCUT : Hid (∀ w', Below w7.heap.size w7 w' → Calls Tryz.prog 10 #[.pointer (some ⟨w.heap.size, 0, none⟩), .int .i64 (placeP evs x.pos : Nat), .int .i64 (placeP evs (k + 1) : Nat)] w' fun e w'' => e = .returned (.tuple #[.string (strL (((evs.take (k + 1)).drop x.pos).flatMap evOut)), .int .i64 0]) ∧ Below w7.heap.size w7 w'') := Lib.hid fun w' hb => (tape_cut _ _ _ _ _ (placeP evs x.pos : Nat) (placeP evs (k + 1) : Nat) w' (HF7.out.tape.below hb)).mono fun e w'' ⟨h1, d, h2⟩ => ⟨by rw [cut_form evs (by omega)] at h1; exact h1, by rw [h2]; exact Below.drewN hb d⟩
            have HPRN : Hid (∀ w', Below w7.heap.size w7 w' → Calls Tryz.prog 11 #[.pointer (some ⟨td, 0, none⟩), .int .i64 (j : Int)] w' fun e w'' => e = .returned (.tuple #[.string (strL (((evs.take (k + 1)).drop x.pos).flatMap evOut)), .int .i64 0]) ∧ Below w7.heap.size w7 w'') := Lib.hid fun w' hb => by
              have h := tprint_ok td j x evs w' ((HF7.out.below hb).tree HTREE.out HBT.out) hx HW.out hpx hfle
              rw [hfin] at h
              exact h.mono fun e w'' ⟨h1, h2⟩ => ⟨h1, hb.trans (h2.mono hb.size)⟩
            have hl : j < (nodesB (evs.take (k + 1))).length := hjl
            generalize (nodesB (evs.take (k + 1))).length = nl at *
            generalize (((evs.take (k + 1)).drop x.pos).flatMap evOut) = F at *
            generalize placeP evs x.pos = P at *
            generalize placeP evs (k + 1) = L at *
            have hS0 : Below w7.heap.size w7 w7.drew := (Below.refl _ _).drew
            have i1 : (0 : Int) ≤ (j : Int) := by omega
            have i2 : (j : Int) < (nl : Int) := by omega
            have hcm : ((strL F).toList == (strL F).toList) = true := by simp
            clear hx hfin hpx hfle hjl hfrom hnum hcf hof0 hofs hgfw hgc hebw hl
            go_wp2_with fail
            clear g0
            go_region_held3 (fun w' => w'.cell? ⟨wr.heap.size, 1, none⟩ = some (.int .i64 (j : Int)) ∧ w'.cell? ⟨gf, j, none⟩ = some (.int .i64 (P : Nat)) ∧ Below w7.heap.size w7 w') (first | exact HS.out _ ‹_› | go_keep) (first | (go_at_call 8; (with_reducible refine (HPLC.out _ ‹_›).mono ?_); rintro e w8 ⟨rfl, hb8⟩) | (go_at_call 10; (with_reducible refine (HCUT.out _ ‹_›).mono ?_); rintro e w9 ⟨rfl, hb9⟩))
            obtain ⟨y1, _, _⟩ := HS.out w9 hb9
            have HB9 := Lib.hid hb9
            clear hb9
            go_wp2_with fail
            (with_reducible refine (HPRN.out _ HB9.out).mono ?_)
            rintro r w10 ⟨rfl, hb10⟩
            have hbw10 := HBW7.out.trans (hb10.mono HBW7.out.size)
            have HF10 := Lib.hid (HF7.out.below hb10)
            clear y1 hb10
            go_wp2_with fail
            go_roundw
            case rel => exact ⟨k + 1, by go_num, by omega, hbw10, HF10⟩
            case measure => simp [intOf]; omega
          · have h2b : (e.kind != 2) = true := by simpa using h2
            by_cases h0 : e.kind = 0
            · have hkd := h0
              rw [hkd] at e0
              obtain ⟨q1, q2, q3, q4⟩ := HB1.out (.cells #[.int .i64 0, .int .i64 e.num, .int .i64 e.dep, .string (strL e.name), .slice A m c', .string (strL e.text), .int .i64 e.fr, .int .i64 e.tt] 36)
              obtain ⟨w4, hw4⟩ : ∃ w4, w4 = wr.alloc (.cells #[.int .i64 0, .int .i64 e.num, .int .i64 e.dep, .string (strL e.name), .slice A m c', .string (strL e.text), .int .i64 e.fr, .int .i64 e.tt] 36) := ⟨_, rfl⟩
              rw [← hw4] at q1 q2 q3 q4
              have HPL := Lib.hid (tape_place _ _ _ _ _ w4 q2.tape)
              have HQ := Lib.hid (⟨q1, q2, q3, q4⟩ : _ ∧ _ ∧ _ ∧ _)
              clear q1 q2 q3 q4
              go_wp2_with fail
              rw [← hw4]
              clear hw4 e0 e1 e2 e3 e4 e5 e6 e7
              (with_reducible refine HPL.out.mono ?_)
              rintro r w5 ⟨rfl, d, hw5⟩
              have HF5 : Hid (FInv W0 w.heap.size evs k k u9 w5) := Lib.hid (by rw [hw5]; exact HQ.out.2.1.below (Below.drewN (Below.refl _ _) d))
              have HBW5 : Hid (Below w.heap.size w w5) := Lib.hid (by rw [hw5]; exact Below.drewN HQ.out.1 d)
              have HEB5 : Hid (w5.heap[wr.heap.size]? = some (.cells #[.int .i64 0, .int .i64 e.num, .int .i64 e.dep, .string (strL e.name), .slice A m c', .string (strL e.text), .int .i64 e.fr, .int .i64 e.tt] 36 (0, 0))) := Lib.hid (by rw [hw5]; exact HQ.out.2.2.1)
              clear hw5
              have HF5A : Hid (∀ o, FInv W0 w.heap.size evs k k u9 (w5.alloc o) ∧ Below w.heap.size w (w5.alloc o) ∧ (w5.alloc o).heap[wr.heap.size]? = some (.cells #[.int .i64 0, .int .i64 e.num, .int .i64 e.dep, .string (strL e.name), .slice A m c', .string (strL e.text), .int .i64 e.fr, .int .i64 e.tt] 36 (0, 0)) ∧ wr.heap.size < (w5.alloc o).heap.size) := Lib.hid fun o => ⟨HF5.out.below ((Below.refl _ _).alloc (Nat.le_refl _) o), HBW5.out.alloc HBW5.out.size o, (Below.heap_alloc _ _ _ (heap_lt HEB5.out)).trans HEB5.out, by have := heap_lt HEB5.out; simp; omega⟩
              have hnb : (nodesB (evs.take k)).length + 1 ≤ 4294967296 := by have := HK.out.2.2.2.2.2.1; omega
              have hpk : (((evs.take k).flatMap evOut).length : Int) = (placeP evs k : Nat) := rfl
              rw [hpk]
              clear hpk
              generalize placeP evs k = pk at *
              have HPUSH : Hid (∀ (v6 : Value) (w6 : World), w6.ownsRow W0.heap.size 3 1 v6 ((nodesB (evs.take k)).length + 1) (fromC evs (nodesB (evs.take k)) ++ [.int .i64 pk]) → w6.ownsRow W0.heap.size 3 1 v6 (nodesB (evs.take (k + 1))).length (fromC evs (nodesB (evs.take (k + 1))))) := Lib.hid fun v6 w6 hown6 => by
                have h := HK.out.1 h2
                have hl : (nodesB (evs.take (k + 1))).length = (nodesB (evs.take k)).length + 1 := by rw [← fromC_length evs, h, List.length_append, fromC_length]; rfl
                rw [h, hl]
                exact hown6
              go_wp2_with (at_builtin; go_must ((refine wpList_app w5 (by rfl) _ _ 32 (by rfl) W0.heap.size 3 j0 (.int .i64 0) 1 8 Tryz.underlying32 hj hjz0 hjz1 hjz2 (by rfl) (by decide) u9 (nodesB (evs.take k)).length (fromC evs (nodesB (evs.take k))) (by rfl) HF5.out.frm w5.heap.size rfl 1 [.int .i64 pk] (by rfl) (by rfl) (by intro u hu; simp only [List.mem_cons, List.not_mem_nil, or_false] at hu; subst hu; rfl) hnb (by decide) HF5.out.size (fun v6 w6 hown6 hap6 => ?_)); (obtain ⟨q1, q2, q3, q4⟩ := HF5A.out (.cells #[.int .i64 pk] 3)); have HF6 : Hid (FInv W0 w.heap.size evs k (k + 1) v6 w6) := Lib.hid (q1.push hap6 (HPUSH.out _ _ hown6)); have HBW6 : Hid (Below w.heap.size w w6) := Lib.hid (q2.trans (hap6.below q2.size (fun j hj => (by have := (q1.frm.lt j hj).1; have := q1.lt; omega)))); have HEB6 : Hid (w6.heap[wr.heap.size]? = some (.cells #[.int .i64 0, .int .i64 e.num, .int .i64 e.dep, .string (strL e.name), .slice A m c', .string (strL e.text), .int .i64 e.fr, .int .i64 e.tt] 36 (0, 0))) := Lib.hid ((hap6.keep q4 (own_not q1.frm q3 (by decide))).trans q3); clear q1 q2 q3 q4 hown6 hap6; have e0 : w6.cell? ⟨wr.heap.size, 0, none⟩ = some (.int .i64 0) := (by rw [cell_heap HEB6.out]; rfl); have e1 : w6.cell? ⟨wr.heap.size, 1, none⟩ = some (.int .i64 e.num) := (by rw [cell_heap HEB6.out]; rfl); have e2 : w6.cell? ⟨wr.heap.size, 2, none⟩ = some (.int .i64 e.dep) := (by rw [cell_heap HEB6.out]; rfl); have e3 : w6.cell? ⟨wr.heap.size, 3, none⟩ = some (.string (strL e.name)) := (by rw [cell_heap HEB6.out]; rfl); have e4 : w6.cell? ⟨wr.heap.size, 4, none⟩ = some (.slice A m c') := (by rw [cell_heap HEB6.out]; rfl); have e5 : w6.cell? ⟨wr.heap.size, 5, none⟩ = some (.string (strL e.text)) := (by rw [cell_heap HEB6.out]; rfl); have e6 : w6.cell? ⟨wr.heap.size, 6, none⟩ = some (.int .i64 e.fr) := (by rw [cell_heap HEB6.out]; rfl); have e7 : w6.cell? ⟨wr.heap.size, 7, none⟩ = some (.int .i64 e.tt) := (by rw [cell_heap HEB6.out]; rfl)))
              have HADD : Hid (Calls Tryz.prog 9 #[.pointer (some ⟨w.heap.size, 0, none⟩), .agg #[.int .i64 0, .int .i64 e.num, .int .i64 e.dep, .string (strL e.name), .slice A m c', .string (strL e.text), .int .i64 e.fr, .int .i64 e.tt]] w6 fun r w' => r = .returned (.int .i64 0) ∧ TapeAt w' W0.heap.size w.heap.size ((evs.take (k + 1)).flatMap evOut) 0 0 ∧ MovT w.heap.size w6 w') := Lib.hid (by
                have h := tape_add2 W0.heap.size w.heap.size ((evs.take k).flatMap evOut) 0 0 0 e.num e.dep e.fr e.tt e.name e.text A m c' (evOut e) w6 HF6.out.tape (fun w1 hb => by
                  have h := Event_cells (HEVC.out w1 (HBW6.out.trans (hb.mono HBW6.out.size))) HK.out.2.2.2.2.2.2
                  rw [hkd] at h
                  exact h) (by have h1 := outs_take evs (k + 1); have h2 := outs_len evs; have h3 := HW.out; rw [HK.out.2.2.2.1, List.length_append] at h1; omega)
                rw [HK.out.2.2.2.1]
                exact h)
              go_wp2_with fail
              (with_reducible refine HADD.out.mono ?_)
              rintro r w7 ⟨rfl, ht7, hm7⟩
              have HF7 := Lib.hid (HF6.out.add hm7 ht7)
              have HBW7 := Lib.hid (HBW6.out.trans (HF6.out.bel hm7))
              have HEB7 := Lib.hid ((hm7.block wr.heap.size (heap_lt HEB6.out) HBL.out (HF6.out.notRow HEB6.out)).trans HEB6.out)
              clear e0 e1 e2 e3 e4 e5 e6 e7 ht7 hm7
              have g0 : w7.cell? ⟨wr.heap.size, 0, none⟩ = some (.int .i64 0) := by rw [cell_heap HEB7.out]; rfl
              go_wp2_with fail
              have hb7 := HBW7.out
              go_roundw
              case rel => exact ⟨k + 1, by go_num, by omega, hb7, HF7⟩
              case measure => simp [intOf]; omega
            · have hkd : e.kind = 1 := by have := HK3.out; omega
              rw [hkd] at e0
              obtain ⟨q1, q2, q3, q4⟩ := HB1.out (.cells #[.int .i64 1, .int .i64 e.num, .int .i64 e.dep, .string (strL e.name), .slice A m c', .string (strL e.text), .int .i64 e.fr, .int .i64 e.tt] 36)
              obtain ⟨w4, hw4⟩ : ∃ w4, w4 = wr.alloc (.cells #[.int .i64 1, .int .i64 e.num, .int .i64 e.dep, .string (strL e.name), .slice A m c', .string (strL e.text), .int .i64 e.fr, .int .i64 e.tt] 36) := ⟨_, rfl⟩
              rw [← hw4] at q1 q2 q3 q4
              have HPL := Lib.hid (tape_place _ _ _ _ _ w4 q2.tape)
              have HQ := Lib.hid (⟨q1, q2, q3, q4⟩ : _ ∧ _ ∧ _ ∧ _)
              clear q1 q2 q3 q4
              go_wp2_with fail
              rw [← hw4]
              clear hw4 e0 e1 e2 e3 e4 e5 e6 e7
              (with_reducible refine HPL.out.mono ?_)
              rintro r w5 ⟨rfl, d, hw5⟩
              have HF5 : Hid (FInv W0 w.heap.size evs k k u9 w5) := Lib.hid (by rw [hw5]; exact HQ.out.2.1.below (Below.drewN (Below.refl _ _) d))
              have HBW5 : Hid (Below w.heap.size w w5) := Lib.hid (by rw [hw5]; exact Below.drewN HQ.out.1 d)
              have HEB5 : Hid (w5.heap[wr.heap.size]? = some (.cells #[.int .i64 1, .int .i64 e.num, .int .i64 e.dep, .string (strL e.name), .slice A m c', .string (strL e.text), .int .i64 e.fr, .int .i64 e.tt] 36 (0, 0))) := Lib.hid (by rw [hw5]; exact HQ.out.2.2.1)
              clear hw5
              have HF5A : Hid (∀ o, FInv W0 w.heap.size evs k k u9 (w5.alloc o) ∧ Below w.heap.size w (w5.alloc o) ∧ (w5.alloc o).heap[wr.heap.size]? = some (.cells #[.int .i64 1, .int .i64 e.num, .int .i64 e.dep, .string (strL e.name), .slice A m c', .string (strL e.text), .int .i64 e.fr, .int .i64 e.tt] 36 (0, 0)) ∧ wr.heap.size < (w5.alloc o).heap.size) := Lib.hid fun o => ⟨HF5.out.below ((Below.refl _ _).alloc (Nat.le_refl _) o), HBW5.out.alloc HBW5.out.size o, (Below.heap_alloc _ _ _ (heap_lt HEB5.out)).trans HEB5.out, by have := heap_lt HEB5.out; simp; omega⟩
              have hnb : (nodesB (evs.take k)).length + 1 ≤ 4294967296 := by have := HK.out.2.2.2.2.2.1; omega
              have hpk : (((evs.take k).flatMap evOut).length : Int) = (placeP evs k : Nat) := rfl
              rw [hpk]
              clear hpk
              generalize placeP evs k = pk at *
              have HPUSH : Hid (∀ (v6 : Value) (w6 : World), w6.ownsRow W0.heap.size 3 1 v6 ((nodesB (evs.take k)).length + 1) (fromC evs (nodesB (evs.take k)) ++ [.int .i64 pk]) → w6.ownsRow W0.heap.size 3 1 v6 (nodesB (evs.take (k + 1))).length (fromC evs (nodesB (evs.take (k + 1))))) := Lib.hid fun v6 w6 hown6 => by
                have h := HK.out.1 h2
                have hl : (nodesB (evs.take (k + 1))).length = (nodesB (evs.take k)).length + 1 := by rw [← fromC_length evs, h, List.length_append, fromC_length]; rfl
                rw [h, hl]
                exact hown6
              go_wp2_with (at_builtin; go_must ((refine wpList_app w5 (by rfl) _ _ 32 (by rfl) W0.heap.size 3 j0 (.int .i64 0) 1 8 Tryz.underlying32 hj hjz0 hjz1 hjz2 (by rfl) (by decide) u9 (nodesB (evs.take k)).length (fromC evs (nodesB (evs.take k))) (by rfl) HF5.out.frm w5.heap.size rfl 1 [.int .i64 pk] (by rfl) (by rfl) (by intro u hu; simp only [List.mem_cons, List.not_mem_nil, or_false] at hu; subst hu; rfl) hnb (by decide) HF5.out.size (fun v6 w6 hown6 hap6 => ?_)); (obtain ⟨q1, q2, q3, q4⟩ := HF5A.out (.cells #[.int .i64 pk] 3)); have HF6 : Hid (FInv W0 w.heap.size evs k (k + 1) v6 w6) := Lib.hid (q1.push hap6 (HPUSH.out _ _ hown6)); have HBW6 : Hid (Below w.heap.size w w6) := Lib.hid (q2.trans (hap6.below q2.size (fun j hj => (by have := (q1.frm.lt j hj).1; have := q1.lt; omega)))); have HEB6 : Hid (w6.heap[wr.heap.size]? = some (.cells #[.int .i64 1, .int .i64 e.num, .int .i64 e.dep, .string (strL e.name), .slice A m c', .string (strL e.text), .int .i64 e.fr, .int .i64 e.tt] 36 (0, 0))) := Lib.hid ((hap6.keep q4 (own_not q1.frm q3 (by decide))).trans q3); clear q1 q2 q3 q4 hown6 hap6; have e0 : w6.cell? ⟨wr.heap.size, 0, none⟩ = some (.int .i64 1) := (by rw [cell_heap HEB6.out]; rfl); have e1 : w6.cell? ⟨wr.heap.size, 1, none⟩ = some (.int .i64 e.num) := (by rw [cell_heap HEB6.out]; rfl); have e2 : w6.cell? ⟨wr.heap.size, 2, none⟩ = some (.int .i64 e.dep) := (by rw [cell_heap HEB6.out]; rfl); have e3 : w6.cell? ⟨wr.heap.size, 3, none⟩ = some (.string (strL e.name)) := (by rw [cell_heap HEB6.out]; rfl); have e4 : w6.cell? ⟨wr.heap.size, 4, none⟩ = some (.slice A m c') := (by rw [cell_heap HEB6.out]; rfl); have e5 : w6.cell? ⟨wr.heap.size, 5, none⟩ = some (.string (strL e.text)) := (by rw [cell_heap HEB6.out]; rfl); have e6 : w6.cell? ⟨wr.heap.size, 6, none⟩ = some (.int .i64 e.fr) := (by rw [cell_heap HEB6.out]; rfl); have e7 : w6.cell? ⟨wr.heap.size, 7, none⟩ = some (.int .i64 e.tt) := (by rw [cell_heap HEB6.out]; rfl)))
              have HADD : Hid (Calls Tryz.prog 9 #[.pointer (some ⟨w.heap.size, 0, none⟩), .agg #[.int .i64 1, .int .i64 e.num, .int .i64 e.dep, .string (strL e.name), .slice A m c', .string (strL e.text), .int .i64 e.fr, .int .i64 e.tt]] w6 fun r w' => r = .returned (.int .i64 0) ∧ TapeAt w' W0.heap.size w.heap.size ((evs.take (k + 1)).flatMap evOut) 0 0 ∧ MovT w.heap.size w6 w') := Lib.hid (by
                have h := tape_add2 W0.heap.size w.heap.size ((evs.take k).flatMap evOut) 0 0 1 e.num e.dep e.fr e.tt e.name e.text A m c' (evOut e) w6 HF6.out.tape (fun w1 hb => by
                  have h := Event_cells (HEVC.out w1 (HBW6.out.trans (hb.mono HBW6.out.size))) HK.out.2.2.2.2.2.2
                  rw [hkd] at h
                  exact h) (by have h1 := outs_take evs (k + 1); have h2 := outs_len evs; have h3 := HW.out; rw [HK.out.2.2.2.1, List.length_append] at h1; omega)
                rw [HK.out.2.2.2.1]
                exact h)
              go_wp2_with fail
              (with_reducible refine HADD.out.mono ?_)
              rintro r w7 ⟨rfl, ht7, hm7⟩
              have HF7 := Lib.hid (HF6.out.add hm7 ht7)
              have HBW7 := Lib.hid (HBW6.out.trans (HF6.out.bel hm7))
              have HEB7 := Lib.hid ((hm7.block wr.heap.size (heap_lt HEB6.out) HBL.out (HF6.out.notRow HEB6.out)).trans HEB6.out)
              clear e0 e1 e2 e3 e4 e5 e6 e7 ht7 hm7
              have g0 : w7.cell? ⟨wr.heap.size, 0, none⟩ = some (.int .i64 1) := by rw [cell_heap HEB7.out]; rfl
              obtain ⟨j, x, hnum, hx, hfin, hpx, hfle, hjl, hfrom⟩ := HK.out.2.2.1 (by omega)
              obtain ⟨of, cf, hof, hcf, hof0, hofs⟩ := own_slice HF7.out.frm
              subst hof
              obtain ⟨gf, hgf⟩ : ∃ gf, of = some ⟨gf, 0, none⟩ := by
                cases of with
                | none => have := hof0 rfl; omega
                | some ad => obtain ⟨g, rfl, _⟩ := hofs ad rfl; exact ⟨g, rfl⟩
              subst hgf
              have hgfw : gf < w7.heap.size := (HF7.out.frm.lt gf rfl).2
              have hgc : w7.cell? ⟨gf, j, none⟩ = some (.int .i64 (placeP evs x.pos : Nat)) := by rw [HF7.out.frm.cellAt j (by omega), hfrom]
              have hebw : wr.heap.size < w7.heap.size := heap_lt HEB7.out
              have HS : Hid (∀ w', Below w7.heap.size w7 w' → w'.cell? ⟨wr.heap.size, 1, none⟩ = some (.int .i64 (j : Int)) ∧ w'.cell? ⟨gf, j, none⟩ = some (.int .i64 (placeP evs x.pos : Nat)) ∧ Below w7.heap.size w7 w') := Lib.hid fun w' hb => ⟨by rw [hb.cell (p := ⟨wr.heap.size, 1, none⟩) hebw, cell_heap HEB7.out, ← hnum]; rfl, (hb.cell (p := ⟨gf, j, none⟩) hgfw).trans hgc, hb⟩
              have HPLC : Hid (∀ w', Below w7.heap.size w7 w' → Calls Tryz.prog 8 #[.pointer (some ⟨w.heap.size, 0, none⟩)] w' fun e w'' => e = .returned (.int .i64 (placeP evs (k + 1) : Nat)) ∧ Below w7.heap.size w7 w'') := Lib.hid fun w' hb => (tape_place _ _ _ _ _ w' (HF7.out.tape.below hb)).mono fun e w'' ⟨h1, d, h2⟩ => ⟨h1, by rw [h2]; exact Below.drewN hb d⟩
              have HCUT : Hid (∀ w', Below w7.heap.size w7 w' → Calls Tryz.prog 10 #[.pointer (some ⟨w.heap.size, 0, none⟩), .int .i64 (placeP evs x.pos : Nat), .int .i64 (placeP evs (k + 1) : Nat)] w' fun e w'' => e = .returned (.tuple #[.string (strL (((evs.take (k + 1)).drop x.pos).flatMap evOut)), .int .i64 0]) ∧ Below w7.heap.size w7 w'') := Lib.hid fun w' hb => (tape_cut _ _ _ _ _ (placeP evs x.pos : Nat) (placeP evs (k + 1) : Nat) w' (HF7.out.tape.below hb)).mono fun e w'' ⟨h1, d, h2⟩ => ⟨by rw [cut_form evs (by omega)] at h1; exact h1, by rw [h2]; exact Below.drewN hb d⟩
              have HPRN : Hid (∀ w', Below w7.heap.size w7 w' → Calls Tryz.prog 11 #[.pointer (some ⟨td, 0, none⟩), .int .i64 (j : Int)] w' fun e w'' => e = .returned (.tuple #[.string (strL (((evs.take (k + 1)).drop x.pos).flatMap evOut)), .int .i64 0]) ∧ Below w7.heap.size w7 w'') := Lib.hid fun w' hb => by
                have h := tprint_ok td j x evs w' ((HF7.out.below hb).tree HTREE.out HBT.out) hx HW.out hpx hfle
                rw [hfin] at h
                exact h.mono fun e w'' ⟨h1, h2⟩ => ⟨h1, hb.trans (h2.mono hb.size)⟩
              have hl : j < (nodesB (evs.take (k + 1))).length := hjl
              generalize (nodesB (evs.take (k + 1))).length = nl at *
              generalize (((evs.take (k + 1)).drop x.pos).flatMap evOut) = F at *
              generalize placeP evs x.pos = P at *
              generalize placeP evs (k + 1) = L at *
              have hS0 : Below w7.heap.size w7 w7.drew := (Below.refl _ _).drew
              have i1 : (0 : Int) ≤ (j : Int) := by omega
              have i2 : (j : Int) < (nl : Int) := by omega
              have hcm : ((strL F).toList == (strL F).toList) = true := by simp
              clear hx hfin hpx hfle hjl hfrom hnum hcf hof0 hofs hgfw hgc hebw hl
              go_wp2_with fail
              clear g0
              go_region_held3 (fun w' => w'.cell? ⟨wr.heap.size, 1, none⟩ = some (.int .i64 (j : Int)) ∧ w'.cell? ⟨gf, j, none⟩ = some (.int .i64 (P : Nat)) ∧ Below w7.heap.size w7 w') (first | exact HS.out _ ‹_› | go_keep) (first | (go_at_call 8; (with_reducible refine (HPLC.out _ ‹_›).mono ?_); rintro e w8 ⟨rfl, hb8⟩) | (go_at_call 10; (with_reducible refine (HCUT.out _ ‹_›).mono ?_); rintro e w9 ⟨rfl, hb9⟩))
              obtain ⟨y1, _, _⟩ := HS.out w9 hb9
              have HB9 := Lib.hid hb9
              clear hb9
              go_wp2_with fail
              (with_reducible refine (HPRN.out _ HB9.out).mono ?_)
              rintro r w10 ⟨rfl, hb10⟩
              have hbw10 := HBW7.out.trans (hb10.mono HBW7.out.size)
              have HF10 := Lib.hid (HF7.out.below hb10)
              clear y1 hb10
              go_wp2_with fail
              go_roundw
              case rel => exact ⟨k + 1, by go_num, by omega, hbw10, HF10⟩
              case measure => simp [intOf]; omega
        · have hk2 : k = n := by omega
          subst hk2
          have htk : evs.take k = evs := List.take_of_length_le (by rw [HN.out]; exact Nat.le_refl _)
          have hft := hf.out.tape
          rw [htk] at hft
          obtain ⟨all, hall⟩ : ∃ all, evs.flatMap evOut = all := ⟨_, rfl⟩
          have hpos : 0 < all.length := by
            have h := HPOS.out
            unfold placeP at h
            rw [List.take_of_length_le (Nat.le_refl _), hall] at h
            exact h
          rw [hall] at hft
          have HF := Lib.hid hf.out
          have HBR := Lib.hid hbr
          have HPL := Lib.hid (tape_place _ _ _ _ _ wr hft)
          have HFT := Lib.hid hft
          have hsm := hft.small
          have hdw : ∀ L : Nat, L = all.length → dropW all 0 (L : Int) = (0, L) := fun L hL => by
            unfold dropW
            rw [if_neg (by omega), Int.toNat_natCast]
            simp
          have HDW := Lib.hid hdw
          clear hf hbr htk hall hft hdw
          obtain ⟨L, hL⟩ : ∃ L, L = all.length := ⟨_, rfl⟩
          rw [← hL] at HPL hpos hsm
          have HL := Lib.hid hL
          clear hL
          go_wp2_with fail
          (with_reducible refine HPL.out.mono ?_)
          rintro r w5 ⟨rfl, d, hw5⟩
          have HF5 : Hid (FInv W0 w.heap.size evs k k u9 w5) := Lib.hid (by rw [hw5]; exact HF.out.below (Below.drewN (Below.refl _ _) d))
          have HBW5 : Hid (Below w.heap.size w w5) := Lib.hid (by rw [hw5]; exact Below.drewN HBR.out d)
          have HT5 : Hid (TapeAt w5 W0.heap.size w.heap.size all 0 0) := Lib.hid (by rw [hw5]; exact HFT.out.drewN d)
          clear hw5
          have HDR : Hid (Calls Tryz.prog 12 #[.pointer (some ⟨w.heap.size, 0, none⟩), .int .i64 (L : Nat)] w5 fun e w' => e = .returned (.int .i64 0) ∧ ∃ first', TapeAt w' W0.heap.size w.heap.size all first' L ∧ Below w.heap.size w w') := Lib.hid ((tape_drop2 _ _ _ _ _ (L : Nat) w5 HT5.out).mono fun e w' ⟨h1, f, h2, h3⟩ => by
            rw [HDW.out L HL.out] at h1 h2
            exact ⟨h1, f, h2, HBW5.out.trans (HF5.out.bel h3)⟩)
          go_wp2_with fail
          (with_reducible refine HDR.out.mono ?_)
          rintro r w6 ⟨rfl, f6, ht6, hb6⟩
          have HB6 := Lib.hid hb6
          have HT6 := Lib.hid (fun d => ht6.drewN d)
          have HHD := Lib.hid (tape_held _ _ _ _ _ w6 ht6)
          rw [← HL.out, Nat.sub_self] at HHD
          clear ht6 hb6
          go_wp2_with fail
          (with_reducible refine HHD.out.mono ?_)
          rintro r w7 ⟨rfl, d7, rfl⟩
          have HPQ : Hid (∀ d, Calls Tryz.prog 8 #[.pointer (some ⟨w.heap.size, 0, none⟩)] (w6.drewN d) fun e w' => e = .returned (.int .i64 (L : Nat)) ∧ ∃ d', w' = w6.drewN d') := Lib.hid fun d => (tape_place _ _ _ _ _ _ (HT6.out d)).mono fun e w' ⟨h1, d2, h2⟩ => ⟨by rw [HL.out]; exact h1, d + d2, h2.trans (by simp [World.drewN, Nat.add_assoc])⟩
          have HC1 : Hid (∀ d, Calls Tryz.prog 10 #[.pointer (some ⟨w.heap.size, 0, none⟩), .int .i64 (L : Nat), .int .i64 (L : Nat)] (w6.drewN d) fun e w' => e = .returned (.tuple #[.string ⟨#[]⟩, .int .i64 0]) ∧ ∃ d', w' = w6.drewN d') := Lib.hid fun d => (tape_cut _ _ _ _ _ (L : Nat) (L : Nat) _ (HT6.out d)).mono fun e w' ⟨h1, d2, h2⟩ => ⟨by
            have hc : cutW all L (L : Nat) (L : Nat) = ([], 0) := by
              unfold cutW
              rw [if_neg (by have := HL.out; omega)]
              simp
            rw [hc] at h1
            exact h1, d + d2, h2.trans (by simp [World.drewN, Nat.add_assoc])⟩
          have HC2 : Hid (∀ d, Calls Tryz.prog 10 #[.pointer (some ⟨w.heap.size, 0, none⟩), .int .i64 0, .int .i64 (L : Nat)] (w6.drewN d) fun e w' => e = .returned (.tuple #[.string ⟨#[]⟩, .int .i64 2]) ∧ ∃ d', w' = w6.drewN d') := Lib.hid fun d => (tape_cut _ _ _ _ _ 0 (L : Nat) _ (HT6.out d)).mono fun e w' ⟨h1, d2, h2⟩ => ⟨by
            have hc : cutW all L 0 (L : Nat) = ([], 2) := by
              unfold cutW
              rw [if_pos (.inl (by omega))]
            rw [hc] at h1
            exact h1, d + d2, h2.trans (by simp [World.drewN, Nat.add_assoc])⟩
          go_wp2_with fail
          (with_reducible refine (HPQ.out _).mono ?_)
          rintro r w8 ⟨rfl, d8, rfl⟩
          go_wp2_with fail
          (with_reducible refine (HPQ.out _).mono ?_)
          rintro r w9 ⟨rfl, d9, rfl⟩
          go_wp2_with fail
          (with_reducible refine (HC1.out _).mono ?_)
          rintro r w10 ⟨rfl, d10, rfl⟩
          go_wp2_with fail
          (with_reducible refine (HPQ.out _).mono ?_)
          rintro r w11 ⟨rfl, d11, rfl⟩
          go_wp2_with fail
          (with_reducible refine (HC2.out _).mono ?_)
          rintro r w12 ⟨rfl, d12, rfl⟩
          go_wp2_with fail
          go_ret
          exact ⟨rfl, Below.drewN HB6.out _⟩
end Go.Proofs.YtgnpbckjdlhkjaaGreatDoor
