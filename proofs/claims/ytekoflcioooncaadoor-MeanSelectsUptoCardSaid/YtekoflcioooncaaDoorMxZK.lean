/-
  tree.Build of any events: a tree, or ErrShape.
-/
import Derived.Test.YtekoflcioooncaaDoorMxM
import Derived.Test.YtekoflcioooncaaDoorMxZJ
import Derived.Test.YtekoflcioooncaaDoorMxZF
namespace Go.Proofs.YtekoflcioooncaaDoor
open Go.RowKit

theorem wholeB_bad {evs : List Ev} {s : BegS} (k : Nat) (hk : k < evs.length) (h : begAll beg0 (evs.take k) = some s) (hb : begOk s evs[k] = false) : wholeB evs = false := by
  have h2 : begAll beg0 evs = none := by
    rw [← List.take_append_drop k evs, begAll_app, h, List.drop_eq_getElem_cons hk]
    simp only [Option.bind_some, begAll]
    rw [if_neg (by rw [hb]; simp)]
  unfold wholeB
  rw [h2]
theorem wholeB_open {evs : List Ev} {s : BegS} (h : begAll beg0 evs = some s) (hb : decide (s.opn = [] ∧ s.cnt ≠ 0) = false) : wholeB evs = false := by
  have h1 := (beg_le _ _ _ h).2.2.2
  simp only [beg0] at h1
  unfold wholeB
  rw [h]
  simp only [decide_eq_false_iff_not] at hb ⊢
  rintro ⟨a, b⟩
  exact hb ⟨b, fun h0 => a (List.eq_nil_of_length_eq_zero (by omega))⟩
theorem wholeB_done {evs : List Ev} {s : BegS} (h : begAll beg0 evs = some s) (hb : decide (s.opn = [] ∧ s.cnt ≠ 0) = true) : wholeB evs = true := by
  have h1 := (beg_le _ _ _ h).2.2.2
  simp only [beg0] at h1
  unfold wholeB
  rw [h]
  simp only [decide_eq_true_eq] at hb ⊢
  exact ⟨fun h0 => by subst h0; simp at h1; exact hb.2 (by omega), hb.1⟩
set_option maxRecDepth 1000000 in
set_option maxHeartbeats 4000000 in
theorem treeBuild_any (a : Option Addr) (n c : Nat) (evs : List Ev) (w : World) (hE : EvsAt w a n evs) (hn : n ≤ 1048576) (hsm : ∀ e ∈ evs, EvSm e) (hR : RangesAt w 2) (hT : Lib.Utf8Tabs 0 1 w) :
    Calls Tryd.prog 10 #[.slice a n c] w fun e w' => ((wholeB evs = true ∧ ∃ tb, e = .returned (.tuple #[.pointer (some ⟨tb, 0, none⟩), .int .i64 0]) ∧ TreeAt w' w.heap.size tb evs) ∨ (wholeB evs = false ∧ e = .returned (.tuple #[.pointer none, .int .i64 6]))) ∧ Below w.heap.size w w' := by
  obtain ⟨i0, hi, hz0, hz1, hz2⟩ := info_parts infoNode
  obtain ⟨j0, hj, hjz0, hjz1, hjz2⟩ := info_parts infoInt
  have HCO : Hid (∀ W, Below w.heap.size w W → Calls Tryd.prog 27 #[.slice a n c] W fun e w' => ∃ cs, e = .returned (.slice (some ⟨W.heap.size, 0, none⟩) n n) ∧ w'.ownsRow W.heap.size 71 8 (.slice (some ⟨W.heap.size, 0, none⟩) n n) n cs ∧ EvRow w' (W.heap.size + 1) n evs cs ∧ Below W.heap.size W w') :=
    Lib.hid fun W hW => copied_any a n c evs W (hE.below hW) (by omega) (fun e he => (hsm e he).2.2.1)
  have HN : Hid (n = evs.length) := Lib.hid hE.1
  have HSM := Lib.hid hsm
  have HRT : Hid (∀ W, Below w.heap.size w W → RangesAt W 2 ∧ Lib.Utf8Tabs 0 1 W) := Lib.hid fun W hW => ⟨hR.below hW, Utf8Tabs_below hT hW⟩
  have HN1 : Hid (∀ o, Below w.heap.size w (w.alloc o) ∧ (w.alloc o).heap[w.heap.size]? = some o ∧ (w.alloc o).heap.size = w.heap.size + 1) := Lib.hid fun o => ⟨(Below.refl w.heap.size w).alloc (Nat.le_refl _) _, heap_alloc_new w _, by simp⟩
  clear hE hsm hR hT
  go_enter Tryd.func10, Tryd.ntmps10
  go_wp2_with fail
  (with_reducible refine (HCO.out _ (HN1.out _).1).mono ?_)
  rintro e wc ⟨cs, rfl, hcs, hrow, hbc⟩
  rw [(HN1.out _).2.2] at hcs hrow
  have HCS := Lib.hid hcs
  have HROW := Lib.hid hrow
  have hbw := (HN1.out (.cells #[.slice none 0 0, .int .i64 0, .bool false, .bool false] 74)).1.trans (hbc.mono (HN1.out _).1.size)
  have HBW := Lib.hid hbw
  have HCB : Hid (wc.heap[w.heap.size]? = some (.cells #[.slice none 0 0, .int .i64 0, .bool false, .bool false] 74 (0, 0))) := Lib.hid ((hbc.block _ (by rw [(HN1.out _).2.2]; omega)).trans (HN1.out _).2.1)
  clear hcs hrow hbc hbw
  go_wp2_with fail
  have hcbw1 : w.heap.size + 1 < wc.heap.size := (HCS.out.lt _ rfl).2
  have hcbw : w.heap.size < wc.heap.size := by omega
  go_loopw [6, 22] (fun ov iv wr => ∃ (k : Nat) (s : BegS) (vC vN : Value), iv = .int .i64 k ∧ k ≤ n ∧ Hid (begAll beg0 (evs.take k) = some s) ∧ Hid (BInv wc w.heap.size (w.heap.size + 1) n evs s s (nodesB (evs.take k)) vC vN ov wr)) (fun _ iv _ => n - (intOf iv).toNat)
  case atStart => exact ⟨0, beg0, .slice none 0 0, .slice none 0 0, rfl, Nat.zero_le _, Lib.hid rfl, Lib.hid (BInv.start hcbw HCB.out _ rfl)⟩
  case round =>
    obtain ⟨k, s, vC, vN, rfl, hk, hbs, hbi⟩ := hrel
    by_cases hkn : k < n
    · have hkl : k < evs.length := by rw [← HN.out]; exact hkn
      obtain ⟨e, A, m, c', he, hmc, hA, hAcb, e0, e1, e2, e3, e4, e5, e6, e7⟩ := HROW.out.at8 HCS.out HN.out k hkn (Nat.lt_succ_self _) hbi.out.block
      have hek : evs[k] = e := by rw [List.getElem?_eq_getElem hkl] at he; exact Option.some.inj he
      by_cases hokb : begOk s e = false
      · have HTF : Hid (∀ W, BInv wc w.heap.size (w.heap.size + 1) n evs s s (nodesB (evs.take k)) vC vN u6 W → Calls Tryd.prog 28 #[.pointer (some ⟨w.heap.size, 0, none⟩), .agg #[.int .i64 e.kind, .int .i64 e.num, .int .i64 e.dep, .string (strL e.name), .slice A m c', .string (strL e.text), .int .i64 e.fr, .int .i64 e.tt]] W fun r w' => r = .returned (.bool false) ∧ Below w.heap.size w w') := Lib.hid fun W hW => by
          have hb := hW.toBelow HBW.out
          refine (take_bad _ _ vC s e A m c' W hW.chk hokb (hW.attrs hA hAcb) (HSM.out e (by rw [← hek]; exact List.getElem_mem hkl)) (HRT.out W hb).1 (HRT.out W hb).2).mono ?_
          rintro r w' ⟨h1, h2⟩
          exact ⟨h1, hb.trans (h2.mono hb.size)⟩
        have HB1 : Hid (∀ o, BInv wc w.heap.size (w.heap.size + 1) n evs s s (nodesB (evs.take k)) vC vN u6 (wr.alloc o)) := Lib.hid fun o => hbi.out.below hcbw ((Below.refl _ _).alloc (Nat.le_refl _) o)
        have HWF : Hid (wholeB evs = false) := Lib.hid (wholeB_bad k hkl hbs.out (by rw [hek]; exact hokb))
        clear hek hmc hA hAcb he hokb
        go_wp2_with fail
        (with_reducible refine (HTF.out _ (HB1.out _)).mono ?_)
        rintro r w2 ⟨rfl, hb2⟩
        have HB2 := Lib.hid hb2
        clear hb2
        go_wp2_with fail
        go_ret2
        exact ⟨.inr ⟨HWF.out, rfl⟩, HB2.out⟩
      have hok : begOk s e = true := by simpa using hokb
      have hnext : begAll beg0 (evs.take (k + 1)) = some (begNext s e) := by
        rw [List.take_succ_eq_append_getElem hkl, begAll_snoc, hbs.out, hek]
        simp [hok]
      clear hokb
      have hle := beg_le _ _ _ hbs.out
      simp only [beg0, List.length_nil, List.length_take] at hle
      have hcap : s.opn.length < 1048576 ∧ s.next < 1048576 := by omega
      have HTK : Hid (∀ W, BInv wc w.heap.size (w.heap.size + 1) n evs s s (nodesB (evs.take k)) vC vN u6 W → Calls Tryd.prog 28 #[.pointer (some ⟨w.heap.size, 0, none⟩), .agg #[.int .i64 e.kind, .int .i64 e.num, .int .i64 e.dep, .string (strL e.name), .slice A m c', .string (strL e.text), .int .i64 e.fr, .int .i64 e.tt]] W fun r w' => ∃ v', r = .returned (.bool true) ∧ BInv wc w.heap.size (w.heap.size + 1) n evs (begNext s e) s (nodesB (evs.take k)) v' vN u6 w' ∧ Moved w.heap.size vC v' W w') := Lib.hid fun W hW => by
        have hb := hW.toBelow HBW.out
        refine (take_ok _ _ vC s e A m c' W hW.chk hok (hW.attrs hA hAcb) (HSM.out e (by rw [← hek]; exact List.getElem_mem hkl)) hcap (HRT.out W hb).1 (HRT.out W hb).2).mono ?_
        rintro r w' ⟨v', h1, h2, h3⟩
        exact ⟨v', h1, hW.take hcbw h3 h2, h3⟩
      have HB1 : Hid (∀ o, BInv wc w.heap.size (w.heap.size + 1) n evs s s (nodesB (evs.take k)) vC vN u6 (wr.alloc o) ∧ (wr.alloc o).heap[wr.heap.size]? = some o ∧ (wr.alloc o).heap.size = wr.heap.size + 1) := Lib.hid fun o => ⟨hbi.out.below hcbw ((Below.refl _ _).alloc (Nat.le_refl _) o), heap_alloc_new wr o, by simp⟩
      obtain ⟨a1, a2, a3, a4, a5, a6, a7⟩ := hbi.out.ne hcbw
      have HBL : Hid (vC.ownBlock ≠ some wr.heap.size ∧ w.heap.size ≠ wr.heap.size ∧ vN.ownBlock ≠ some wr.heap.size ∧ wc.heap.size ≠ wr.heap.size) := Lib.hid ⟨fun e => by have := (a1 _ e).2; omega, by omega, fun e => by have := (a2 _ e).2; omega, by omega⟩
      have HK := Lib.hid (⟨hek, hok, hnext, hle, hcap, hmc, hA, hAcb⟩ : _ ∧ _ ∧ _ ∧ _ ∧ _ ∧ _ ∧ _ ∧ _)
      clear a1 a2 a3 a4 a5 a6 a7 hek hok hnext hle hcap hmc hA hAcb he
      go_wp2_with fail
      (with_reducible refine (HTK.out _ (HB1.out _).1).mono ?_)
      rintro r w2 ⟨vC', rfl, hbi2, hmv⟩
      have HEB := Lib.hid ((hmv.block wr.heap.size (by rw [(HB1.out _).2.2]; omega) (Ne.symm HBL.out.2.1) HBL.out.1).trans (HB1.out _).2.1)
      have HBI2 := Lib.hid hbi2
      clear hmv hbi2 e0 e1 e2 e3 e4 e5 e6 e7
      by_cases h2 : e.kind = 2
      · have e0 : w2.cell? ⟨wr.heap.size, 0, none⟩ = some (.int .i64 2) := by rw [cell_heap HEB.out, ← h2]; rfl
        go_wp2_with fail
        obtain ⟨b1, b2, b3, b4, b5, b6, b7⟩ := HBI2.out.ne hcbw
        obtain ⟨ncs, hncs, hndr⟩ := HBI2.out.nds'
        have hinv := nodesB_inv hbs.out
        have hhd := begOk_close HK.out.2.1 h2
        obtain ⟨rest, hr⟩ : ∃ rest, s.opn = (e.num, e.dep, e.name) :: rest := by
          cases ho : s.opn with
          | nil => rw [ho] at hhd; cases hhd
          | cons a r => rw [ho] at hhd; simp at hhd; exact ⟨r, by rw [hhd]⟩
        have hnum := hinv.opn _ (by rw [hr]; exact List.mem_cons_self)
        simp only at hnum
        rw [hinv.nxt] at hnum
        have hnlen : (nodesB (evs.take k)).length ≤ 1048576 := by
          have h1 := hinv.nxt
          have h2 := HK.out.2.2.2.2.1.2
          omega
        obtain ⟨j, hj'⟩ : ∃ j : Nat, e.num = (j : Int) := ⟨e.num.toNat, by omega⟩
        have hjn : j < (nodesB (evs.take k)).length := by omega
        obtain ⟨oa, na, rfl, hna, hoa0, hoas⟩ := own_slice hncs
        obtain ⟨gn, rfl⟩ : ∃ gn, oa = some ⟨gn, 0, none⟩ := by
          cases oa with
          | none => have := hoa0 rfl; omega
          | some ad => obtain ⟨g, rfl, _⟩ := hoas ad rfl; exact ⟨g, rfl⟩
        obtain ⟨go, oc, rfl, hoc, _, hgow, _, hgoc⟩ := own_some HBI2.out.opn
        have HNC := Lib.hid (⟨hncs, hndr, hr, hj', hinv⟩ : _ ∧ _ ∧ _ ∧ _ ∧ _)
        have HJN := Lib.hid hjn
        have HB2 := Lib.hid (⟨b2, b3⟩ : _ ∧ _)
        have hop := HK.out.2.2.2.2.1.1
        obtain ⟨x9, y9⟩ := own_cell hncs (j * 12 + 9) (by omega)
        obtain ⟨x11, y11⟩ := own_cell hncs (j * 12 + 11) (by omega)
        have fz := fun q => hncs.frozenAt q
        have t1 : w2.cell? ⟨wc.heap.size, 1, none⟩ = some (.slice (some ⟨gn, 0, none⟩) (nodesB (evs.take k)).length na) := by rw [cell_heap HBI2.out.tree]; rfl
        have e1 : w2.cell? ⟨wr.heap.size, 1, none⟩ = some (.int .i64 (j : Int)) := by rw [cell_heap HEB.out, ← hj']; rfl
        generalize hnn : (nodesB (evs.take k)).length = nn at *
        have HNN := Lib.hid hnn
        generalize hon : s.opn.length = on at *
        have HON := Lib.hid hon
        have ew : IntKind.i64.wrap ((on : Int) + 1 - 1) = (on : Int) := by rw [IntWalk.i64_in _ (by omega)]; omega
        have ew2 : IntKind.i64.wrap ((nn : Int) - 1) = (nn : Int) - 1 := IntWalk.i64_in _ (by omega)
        have i1 : (0 : Int) ≤ (j : Int) := by omega
        have i2 : (j : Int) < (nn : Int) := by omega
        clear hncs hndr b1 b2 b3 b4 b5 b6 b7 hinv hhd hr hnum hna hoa0 hoas hgoc hgow hj' hnn hon
        go_region
        go_wp2_with fail
        obtain ⟨hncs, hndr, hr, hj', hinv⟩ := HNC.out
        have hs' : (begNext s e).opn = rest := by unfold begNext; simp [h2, hr]
        have hon : on = rest.length + 1 := by rw [← HON.out, hr]; rfl
        have hsc : s.cnt = k := by have := HK.out.2.2.2.1.2.2.2; omega
        have hnb : nodesB (evs.take (k + 1)) = (nodesB (evs.take k)).modify j (fun x => ⟨x.pos, x.par, (nn : Int) - 1, k + 1⟩) := by
          rw [List.take_succ_eq_append_getElem hkl, HK.out.1]
          unfold nodesB
          rw [ndAll_snoc _ _ _ _ hbs.out]
          unfold ndNext
          rw [if_pos h2, hsc, hj', Int.toNat_natCast]
          have h9 : (ndAll beg0 [] (evs.take k)).length = nn := HNN.out
          rw [h9]
        have hmv : Moved wc.heap.size (.slice (some ⟨gn, 0, none⟩) nn na) (.slice (some ⟨gn, 0, none⟩) nn na) w2 ((w2.setCell ⟨gn, j * 12 + 9, none⟩ (.int .i64 ((nn : Int) - 1))).setCell ⟨gn, j * 12 + 11, none⟩ (.int .i64 ((k + 1 : Nat) : Int))) := ((Moved.of (Below.refl _ w2)).setOwn rfl _ _).setOwn rfl _ _
        have hgt : wc.heap.size ≠ gn := fun e => by have := (HB2.out.1 gn rfl).1; omega
        have hbi3 := HBI2.out.node (nds' := nodesB (evs.take (k + 1))) hcbw hmv ((Below.heap_setCell _ _ _ _ hgt).trans ((Below.heap_setCell _ _ _ _ hgt).trans HBI2.out.tree)) ⟨_, by rw [hnb, List.length_modify, HNN.out]; exact ((hncs.stored _ _).1.stored _ _).1, by rw [hnb]; exact hndr.close (by rw [hncs.1, HNN.out]) j (by rw [HNN.out]; exact HJN.out) _ _⟩
        have hpop := hbi3.opn
        rw [hr, opC_cons, List.length_cons] at hpop
        have hbi4 := hbi3.open' (s' := begNext s e) (vO' := .slice (some ⟨go, 0, none⟩) on oc) hcbw (Moved.mk rfl rfl rfl (Nat.le_refl _) (fun _ _ _ _ => rfl) (.inl rfl)) (by
          rw [hs', hon]
          have h3 : on + 1 = rest.length + 1 + 1 := by omega
          rw [h3] at hpop
          exact own_pop hpop (by rw [opC_length]; omega))
        have hbi5 := hbi4.below hcbw ((Below.refl _ _).drew)
        have HNX := Lib.hid (HK.out.2.2.1)
        have X := Lib.hid hbi5
        clear hbi3 hbi4 hbi5 hpop hmv hnb hncs hndr hr hj' hinv hs'
        go_roundw
        case rel => exact ⟨k + 1, begNext s e, vC', _, by go_num, by omega, HNX, X⟩
        case measure => simp [intOf]; omega
      · have hb2 : (e.kind == 2) = false := by simpa using h2
        have e0 : w2.cell? ⟨wr.heap.size, 0, none⟩ = some (.int .i64 e.kind) := by rw [cell_heap HEB.out]; rfl
        go_wp2_with fail
        obtain ⟨b1, b2, b3, b4, b5, b6, b7⟩ := HBI2.out.ne hcbw
        obtain ⟨ncs, hncs, hndr⟩ := HBI2.out.nds'
        obtain ⟨oa, na, rfl, _, _, _⟩ := own_slice hncs
        obtain ⟨go, oc, rfl, _, _, hgow, _, hgoc⟩ := own_some HBI2.out.opn
        have hnlen : (nodesB (evs.take k)).length ≤ 1048576 := by
          have h1 := (nodesB_inv hbs.out).nxt
          have h2 := HK.out.2.2.2.2.1.2
          omega
        have hszw : wr.heap.size < w2.heap.size := heap_lt HEB.out
        have hop := HK.out.2.2.2.2.1.1
        refine tree13_any (wc.heap.size + 2) wc.heap.size wr.heap.size go s.opn.length _ oc k _ ((s.opn.head?.map (·.1)).getD (-1)) e A m c' oa na _ ncs _ _ _ _ _ _ _ _ _ _ _ _ _ _ _ _ _ _ _ _ _ _ _ _ _ _ _ _ _ _ _ _ _ _ _ _ _ _ _ _ _ _ _ _ _ _ _ _ _ _ _ _ _ _ _ _ _ _ _ _ _ _ _ _ _ _ _ _ _ _ _ _ _ _ _ _ _ _ _ _ _ _ _ _ _ _ _ _ _ _ _ _ HBI2.out.tree HEB.out hncs HBI2.out.size (by omega) hgow (hgoc _ _ (opC_top _)) (fun e => by have := (b2 _ e).1; omega) HBL.out.2.2.1 (fun e => b5 go e rfl) HBL.out.2.2.2 (fun e => by have := (b3 go rfl).1; omega) (by omega) (by omega) hnlen rfl _ (Lib.hid fun y60 y61 y62 y63 y64 y65 y66 y67 y68 y69 y70 y71 y72 y73 y74 y75 y76 y77 y78 y79 y80 y81 oa6 na6 w6 hown hmv htree => ?_)
        have hsc : s.cnt = k := by have := HK.out.2.2.2.1.2.2.2; omega
        have hbi3 : BInv wc w.heap.size (w.heap.size + 1) n evs (begNext s e) s (nodesB (evs.take (k + 1))) vC' (.slice oa6 ((nodesB (evs.take k)).length + 1) na6) (.slice (some ⟨go, 0, none⟩) (s.opn.length + 1) oc) w6 := by
          have hnb : nodesB (evs.take (k + 1)) = nodesB (evs.take k) ++ [⟨k, (s.opn.head?.map (·.1)).getD (-1), e.num, k + 1⟩] := by
            rw [List.take_succ_eq_append_getElem hkl, HK.out.1]
            unfold nodesB
            rw [ndAll_snoc _ _ _ _ hbs.out]
            unfold ndNext
            rw [if_neg h2, hsc]
          rw [hnb]
          refine HBI2.out.node hcbw hmv htree ⟨_, by rw [List.length_append]; exact hown, hndr.push (by have := hncs.1; omega) _ e A m c' ?_ HK.out.2.2.2.2.2.1 HK.out.2.2.2.2.2.2.1 HK.out.2.2.2.2.2.2.2⟩
          rw [List.getElem?_eq_getElem hkl, HK.out.1]
        have HEB6 := Lib.hid ((hmv.block wr.heap.size hszw (Ne.symm HBL.out.2.2.2) HBL.out.2.2.1).trans HEB.out)
        have HBI3 := Lib.hid hbi3
        have HNX := Lib.hid (HK.out.2.2.1)
        have hk01 := (begOk_new HK.out.2.1 h2).2
        clear hbi3 htree hmv hown hnlen b1 b2 b3 b4 b5 b6 b7 hndr hncs hgow hgoc hszw hop hsc e0 hb2
        by_cases h0 : e.kind = 0
        · have e0 : w6.cell? ⟨wr.heap.size, 0, none⟩ = some (.int .i64 0) := by rw [cell_heap HEB6.out, ← h0]; rfl
          have e1 : w6.cell? ⟨wr.heap.size, 1, none⟩ = some (.int .i64 e.num) := by rw [cell_heap HEB6.out]; rfl
          have HB6 : Hid (∀ o, BInv wc w.heap.size (w.heap.size + 1) n evs (begNext s e) s (nodesB (evs.take (k + 1))) vC' (.slice oa6 ((nodesB (evs.take k)).length + 1) na6) (.slice (some ⟨go, 0, none⟩) (s.opn.length + 1) oc) (w6.alloc o) ∧ wc.heap.size + 2 ≤ w6.heap.size) := Lib.hid fun o => ⟨HBI3.out.below hcbw ((Below.refl _ _).alloc (Nat.le_refl _) o), HBI3.out.size⟩
          have hoplen : s.opn.length + 1 + 1 ≤ 4294967296 := by have := HK.out.2.2.2.2.1.1; omega
          go_wp2_with (at_builtin; go_must ((refine wpList_app w6 (by rfl) _ _ 36 (by rfl) (wc.heap.size + 1) 3 j0 (.int .i64 0) 1 8 Tryd.underlying36 hj hjz0 hjz1 hjz2 (by rfl) (by decide) (.slice (some ⟨go, 0, none⟩) (s.opn.length + 1) oc) (s.opn.length + 1) (opC s.opn) (by rfl) HBI3.out.opn w6.heap.size rfl 1 [.int .i64 e.num] (by rfl) (by rfl) (by intro u hu; simp only [List.mem_cons, List.not_mem_nil, or_false] at hu; subst hu; rfl) hoplen (by decide) (by have := (HB6.out (.cells #[] 3)).2; omega) (fun vO' w7 hown7 hap7 => ?_))))
          have hs' : (begNext s e).opn = (e.num, e.dep, e.name) :: s.opn := by unfold begNext; simp [h0]
          have hbi7 : BInv wc w.heap.size (w.heap.size + 1) n evs (begNext s e) (begNext s e) (nodesB (evs.take (k + 1))) vC' (.slice oa6 ((nodesB (evs.take k)).length + 1) na6) vO' w7 := by
            refine (HB6.out _).1.open' hcbw (Moved.app hap7) ?_
            rw [hs', opC_cons, List.length_cons]
            exact hown7
          have X := Lib.hid hbi7
          clear hbi7 hown7 hap7 hs'
          go_wp2_with fail
          go_roundw
          case rel => exact ⟨k + 1, begNext s e, vC', _, by go_num, by omega, HNX, X⟩
          case measure => simp [intOf]; omega
        · have h1 : e.kind = 1 := by omega
          have e0 : w6.cell? ⟨wr.heap.size, 0, none⟩ = some (.int .i64 1) := by rw [cell_heap HEB6.out, ← h1]; rfl
          have hs' : (begNext s e).opn = s.opn := by unfold begNext; simp [h1]
          have X := Lib.hid (HBI3.out.same hs')
          clear hs'
          go_wp2_with fail
          go_roundw
          case rel => exact ⟨k + 1, begNext s e, vC', _, by go_num, by omega, HNX, X⟩
          case measure => simp [intOf]; omega
    · have hk2 : k = n := by omega
      subst hk2
      have htk : evs.take k = evs := List.take_of_length_le (by rw [HN.out]; exact Nat.le_refl _)
      have hb := hbs.out
      have hi2 := hbi.out
      rw [htk] at hb hi2
      cases hdn : decide (s.opn = [] ∧ s.cnt ≠ 0) with
      | false =>
        have c3 : wr.cell? ⟨w.heap.size, 3, none⟩ = some (.bool false) := by
          rw [cell_heap hi2.chk.at', hdn]; rfl
        have HD := Lib.hid (done_any w.heap.size false wr c3)
        have HWF : Hid (wholeB evs = false) := Lib.hid (wholeB_open hb hdn)
        have HB2 := Lib.hid (hi2.toBelow HBW.out)
        clear hi2 hb hdn c3
        go_wp2_with fail
        (with_reducible refine HD.out.mono ?_)
        rintro r w9 ⟨rfl, rfl⟩
        go_wp2_with fail
        go_ret2
        exact ⟨.inr ⟨HWF.out, rfl⟩, HB2.out⟩
      | true =>
      have c3 : wr.cell? ⟨w.heap.size, 3, none⟩ = some (.bool true) := by
        rw [cell_heap hi2.chk.at', hdn]; rfl
      have HWT : Hid (wholeB evs = true) := Lib.hid (wholeB_done hb hdn)
      have HD := Lib.hid (done_any w.heap.size true wr c3)
      have HI2 := Lib.hid hi2
      clear hi2 hb hdn c3
      go_wp2_with fail
      (with_reducible refine HD.out.mono ?_)
      rintro r w9 ⟨rfl, rfl⟩
      go_wp2_with fail
      go_ret2
      have hi2 := HI2.out
      obtain ⟨ncs, hncs, hndr⟩ := hi2.nds'
      obtain ⟨b1, b2, b3, b4, b5, b6, b7⟩ := hi2.ne hcbw
      obtain ⟨oa, na, rfl, hna, hoa0, hoas⟩ := own_slice hncs
      refine ⟨.inl ⟨HWT.out, wc.heap.size, rfl, ⟨b7, by omega, w.heap.size + 1, k, oa, na, hi2.tree, HN.out, hna, by omega, by omega, fun i hi => ?_, fun i x hx => ?_⟩⟩, hi2.toBelow HBW.out⟩
      · obtain ⟨e, A, m, c', he, hmc, hA, hAcb, g0, g1, g2, g3, g4, g5, g6, g7⟩ := HROW.out.at8 HCS.out HN.out i (by have := HN.out; omega) (Nat.lt_succ_self _) hi2.block
        have hee : evs[i] = e := by rw [List.getElem?_eq_getElem hi] at he; exact Option.some.inj he
        rw [hee]
        refine ⟨A, m, c', hmc, hi2.attrs hA hAcb, fun ad h => Nat.le_of_lt (hAcb ad h), fun j hj => ?_⟩
        match j, hj with
        | 0, _ => exact g0
        | 1, _ => exact g1
        | 2, _ => exact g2
        | 3, _ => exact g3
        | 4, _ => exact g4
        | 5, _ => exact g5
        | 6, _ => exact g6
        | 7, _ => exact g7
      · obtain ⟨e, A, m, c', h1, h2, h3, h4, h5⟩ := hndr i x hx
        have hil := get_lt hx
        cases oa with
        | none => have := hoa0 rfl; omega
        | some ad =>
          obtain ⟨g, rfl, hg1, hg2, _, hgc⟩ := hoas _ rfl
          refine ⟨g, e, A, m, c', rfl, by omega, hg2, h1, h2, hi2.attrs h3 h4, fun ad h => Nat.le_of_lt (h4 ad h), fun j hj => ?_⟩
          rw [← h5 j hj]
          exact hncs.cellAt _ (by omega)
end Go.Proofs.YtekoflcioooncaaDoor

namespace Go.Proofs.YtekoflcioooncaaDoor
open Go.RowKit

theorem ss_one {f : Nat} {w : World} {G : Nat} {s : PS} {wa : Option Addr} {wc : Nat} {e : TypeId} {fz : Nat × Nat} (hG : w.heap[G]? = some (.cells (stepC s wa wc).toArray e fz)) (h0 : s.wher.length ≤ wc) (h1 : W64 s.axis) (h2 : W64 s.test) (h3 : s.name.length ≤ 1048576) (h4 : s.wher.length ≤ 1048576) (hx : XsAt f w wa s.wher) : SsAt f w (some ⟨G, 0, none⟩) [s] := fun i hi => by
  have h0' : i = 0 := by simpa using hi
  subst h0'
  refine ⟨G, 0, stepC s wa wc, rfl, heap_lt hG, rfl, fun j hj => ?_, wa, wc, rfl, h0, h1, h2, h3, h4, hx⟩
  rw [cell_heap hG]
  match j, hj with
  | 0, _ => rfl
  | 1, _ => rfl
  | 2, _ => rfl
  | 3, _ => rfl
theorem xs_one {f : Nat} {w : World} {G : Nat} {x : PX} {cs : List Value} {e : TypeId} {fz : Nat × Nat} (hG : w.heap[G]? = some (.cells cs.toArray e fz)) (hl : cs.length = 7) (hx : XAt f w x cs) : XsAt f w (some ⟨G, 0, none⟩) [x] := fun i hi => by
  have h0' : i = 0 := by simpa using hi
  subst h0'
  refine ⟨G, 0, cs, rfl, heap_lt hG, hl, fun j hj => ?_, hx⟩
  rw [cell_heap hG]
  simp
def awEvs : List Ev := [⟨0, 0, 1, [97], [], [], 0, 0⟩, ⟨1, 1, 2, [], [], [120], 0, 0⟩, ⟨2, 0, 1, [97], [], [], 0, 0⟩]
theorem aw_whole : wholeB awEvs = true := by kernel_rfl
theorem aw_len : (nodesB awEvs).length = 2 := by kernel_rfl
theorem aw_sm : ∀ e ∈ awEvs, EvSm e := fun e he => by
  simp only [awEvs, List.mem_cons, List.not_mem_nil, or_false] at he
  rcases he with rfl | rfl | rfl <;> exact ⟨by decide, by decide, by decide, fun p hp => by cases hp⟩
theorem aw_tq {w : World} {B tb : Nat} (h : TreeAt w B tb awEvs) : TQ w tb awEvs := by
  refine ⟨⟨B, h⟩, aw_whole, aw_sm, by rw [aw_len]; decide, fun v i h1 h2 => ?_⟩
  rw [aw_len] at h2
  have h3 : (v = -1 ∧ i = 0) ∨ (v = 0 ∧ i = 0) ∨ (v = 1 ∧ i = 1) := by omega
  rcases h3 with ⟨rfl, rfl⟩ | ⟨rfl, rfl⟩ | ⟨rfl, rfl⟩ <;> (rw [aw_len]; decide +kernel)
def awS1 : List PS := [.mk 0 0 [97] []]
def awS2 : List PS := [.mk 1 2 [] []]
theorem aw_sel1 : selectN (treePT awEvs) 1 awS1 = [0] := by kernel_rfl
theorem aw_sel2 : selectN (treePT awEvs) 1 awS2 = [1] := by kernel_rfl
theorem aw_ref1 : refusesN (nodesB awEvs).length 1 (-1) awS1 = 0 := by kernel_rfl
theorem aw_ref2 : refusesN (nodesB awEvs).length 1 (-1) awS2 = 0 := by kernel_rfl
theorem aw_evs {w : World} {G : Nat} (h : w.heap[G]? = some (.cells (awEvs.flatMap fun e => evL e none 0 0).toArray 71 (0, 0))) : EvsAt w (some ⟨G, 0, none⟩) 3 awEvs := by
  refine ⟨rfl, fun i hi => ?_⟩
  have h3 : i < 3 := hi
  have key : ∀ j : Nat, i = 0 ∨ i = 1 ∨ i = 2 := fun _ => by omega
  refine ⟨G, 0, none, 0, 0, rfl, heap_lt h, Nat.le_refl _, ⟨by rcases key 0 with rfl | rfl | rfl <;> rfl, fun k hk => by rcases key 0 with rfl | rfl | rfl <;> simp [awEvs] at hk⟩, fun j hj => ?_⟩
  rw [cell_heap h]
  rcases key 0 with rfl | rfl | rfl
  · match j, hj with
    | 0, _ => rfl
    | 1, _ => rfl
    | 2, _ => rfl
    | 3, _ => rfl
    | 4, _ => rfl
    | 5, _ => rfl
    | 6, _ => rfl
    | 7, _ => rfl
  · match j, hj with
    | 0, _ => rfl
    | 1, _ => rfl
    | 2, _ => rfl
    | 3, _ => rfl
    | 4, _ => rfl
    | 5, _ => rfl
    | 6, _ => rfl
    | 7, _ => rfl
  · match j, hj with
    | 0, _ => rfl
    | 1, _ => rfl
    | 2, _ => rfl
    | 3, _ => rfl
    | 4, _ => rfl
    | 5, _ => rfl
    | 6, _ => rfl
    | 7, _ => rfl
theorem ints_one {w : World} {G : Nat} {x : Int} {e : TypeId} {fz : Nat × Nat} (h : w.heap[G]? = some (.cells #[.int .i64 x] e fz)) : IntsAt w (some ⟨G, 0, none⟩) 1 [x] :=
  ⟨rfl, fun i hi => by
    have h0 : i = 0 := by simpa using hi
    subst h0
    exact ⟨G, 0, rfl, heap_lt h, by rw [cell_heap h]; rfl⟩⟩

theorem calls_alloc {P : Program} {f : Nat} {args : Array Value} {w : World} {o : Obj} {Q : Ending → World → Prop} (h : ∀ w1, Below w.heap.size w w1 → w1.heap[w.heap.size]? = some o → Calls P f args w1 Q) : Calls P f args (w.alloc o) Q :=
  h _ ((Below.refl _ _).alloc (Nat.le_refl _) _) (heap_alloc_new w o)

set_option maxRecDepth 100000 in
set_option maxHeartbeats 4000000 in
theorem awake12_any (HST : ∀ (f tb : Nat) (evs : List Ev), StepX tb evs f) (w : World) (hE : EnvT w) : Calls Tryd.prog 9 #[] w fun e w' => e = .returned (.bool true) ∧ Below w.heap.size w w' := by
  have HE := Lib.hid hE
  clear hE
  have HB0 : Hid (Below w.heap.size w w) := Lib.hid (Below.refl _ _)
  have HBD : Hid (∀ W (G : Nat), Below w.heap.size w W → EvsAt W (some ⟨G, 0, none⟩) 3 awEvs → Calls Tryd.prog 10 #[.slice (some ⟨G, 0, none⟩) 3 3] W fun e w' => ∃ tb, e = .returned (.tuple #[.pointer (some ⟨tb, 0, none⟩), .int .i64 0]) ∧ TQ w' tb awEvs ∧ Below W.heap.size W w') := Lib.hid fun W G hW hev =>
    (treeBuild_any _ 3 3 awEvs W hev (by decide) aw_sm (HE.out.below hW).rng (HE.out.below hW).tab).mono fun e w' h => by
      obtain ⟨h1, hb⟩ := h
      rcases h1 with ⟨_, tb, he, ht⟩ | ⟨hf, _⟩
      · exact ⟨tb, he, aw_tq ht, hb⟩
      · rw [aw_whole] at hf; cases hf
  have HSL : Hid (∀ (ss : List PS) W (G tb : Nat), Below w.heap.size w W → TQ W tb awEvs → SsAt 1 W (some ⟨G, 0, none⟩) ss → ss.length = 1 → Calls Tryd.prog 15 #[.pointer (some ⟨tb, 0, none⟩), .agg #[.slice (some ⟨G, 0, none⟩) 1 1]] W fun e w' => ∃ A cc, e = .returned (.tuple #[.slice A (selectN (treePT awEvs) 1 ss).length cc, .int .i64 (refusesN (nodesB awEvs).length 1 (-1) ss)]) ∧ IntsAt w' A (selectN (treePT awEvs) 1 ss).length (selectN (treePT awEvs) 1 ss) ∧ Below W.heap.size W w') := Lib.hid fun ss W G tb hW hq hs hl => by
    have := select_any (f := 1) (by decide) (HST 1 tb awEvs) (some ⟨G, 0, none⟩) 1 ss W hq (HE.out.below hW) hs (by omega)
    rw [hl] at this
    exact this
  have HS1 : Hid (∀ W (G tb : Nat), Below w.heap.size w W → TQ W tb awEvs → W.heap[G]? = some (.cells #[.int .i64 0, .int .i64 0, .string ⟨#[97]⟩, .slice none 0 0] 57 (0, 0)) → Calls Tryd.prog 15 #[.pointer (some ⟨tb, 0, none⟩), .agg #[.slice (some ⟨G, 0, none⟩) 1 1]] W fun e w' => ∃ A cc, e = .returned (.tuple #[.slice A 1 cc, .int .i64 0]) ∧ IntsAt w' A 1 [0] ∧ Below W.heap.size W w') := Lib.hid fun W G tb hW hq hG => by
    have := HSL.out awS1 W G tb hW hq (ss_one (wa := none) (wc := 0) hG (Nat.le_refl _) (by unfold W64; decide) (by unfold W64; decide) (by decide) (by decide) (fun i hi => absurd hi (Nat.not_lt_zero _))) rfl
    rw [aw_sel1, aw_ref1] at this
    exact this
  have HS2 : Hid (∀ W (G tb : Nat), Below w.heap.size w W → TQ W tb awEvs → W.heap[G]? = some (.cells #[.int .i64 1, .int .i64 2, .string ⟨#[]⟩, .slice none 0 0] 57 (0, 0)) → Calls Tryd.prog 15 #[.pointer (some ⟨tb, 0, none⟩), .agg #[.slice (some ⟨G, 0, none⟩) 1 1]] W fun e w' => ∃ A cc, e = .returned (.tuple #[.slice A 1 cc, .int .i64 0]) ∧ IntsAt w' A 1 [1] ∧ Below W.heap.size W w') := Lib.hid fun W G tb hW hq hG => by
    have := HSL.out awS2 W G tb hW hq (ss_one (wa := none) (wc := 0) hG (Nat.le_refl _) (by unfold W64; decide) (by unfold W64; decide) (by decide) (by decide) (fun i hi => absurd hi (Nat.not_lt_zero _))) rfl
    rw [aw_sel2, aw_ref2] at this
    exact this
  have HIN : Hid (∀ W (A : Option Addr) (G cc : Nat) (x : Int), Below w.heap.size w W → IntsAt W A 1 [x] → W.heap[G]? = some (.cells #[.int .i64 x] 3 (0, 0)) → Calls Tryd.prog 16 #[.slice A 1 cc, .slice (some ⟨G, 0, none⟩) 1 1] W fun e w' => e = .returned (.bool true) ∧ Below W.heap.size W w') := Lib.hid fun W A G cc x hW h1 hG => by
    have := lawInts_any A (some ⟨G, 0, none⟩) 1 1 cc 1 [x] [x] W h1 (ints_one hG) (by decide)
    rw [decide_eq_true rfl] at this
    exact this
  go_enter Tryd.func9, Tryd.ntmps9
  go_wp2_with fail
  refine calls_alloc fun w1 hb1 hh1 => ?_
  have HB1 := Lib.hid hb1
  have HBD1 := Lib.hid (HBD.out _ _ hb1 (aw_evs hh1))
  clear hb1 hh1
  (with_reducible refine HBD1.out.mono ?_)
  rintro e w2 ⟨tb, rfl, hq2, hb2⟩
  have HB2 := Lib.hid (HB1.out.trans (hb2.mono HB1.out.size))
  have HQ2 := Lib.hid hq2
  clear hb2 hq2
  go_wp2_with fail
  refine calls_alloc fun w3 hb3 hh3 => ?_
  have HB3 := Lib.hid (HB2.out.trans (hb3.mono HB2.out.size))
  have HQ3 := Lib.hid (HQ2.out.below hb3)
  have HSX := Lib.hid (HS1.out _ _ tb HB3.out HQ3.out hh3)
  clear hb3 hh3
  (with_reducible refine HSX.out.mono ?_)
  rintro e w4 ⟨A1, c1, rfl, hi1, hb4⟩
  have HB4 := Lib.hid (HB3.out.trans (hb4.mono HB3.out.size))
  have HQ4 := Lib.hid (HQ3.out.below hb4)
  have HI1 := Lib.hid hi1
  clear hb4 hi1
  go_wp2_with fail
  refine calls_alloc fun w5 hb5 hh5 => ?_
  have HB5 := Lib.hid (HB4.out.trans (hb5.mono HB4.out.size))
  have HQ5 := Lib.hid (HQ4.out.below hb5)
  have HI15 := Lib.hid (HI1.out.below hb5)
  have HSY := Lib.hid (HS2.out _ _ tb HB5.out HQ5.out hh5)
  clear hb5 hh5
  (with_reducible refine HSY.out.mono ?_)
  rintro e w6 ⟨A2, c2, rfl, hi2, hb6⟩
  have HB6 := Lib.hid (HB5.out.trans (hb6.mono HB5.out.size))
  have HI16 := Lib.hid (HI15.out.below hb6)
  have HI2 := Lib.hid hi2
  clear hb6 hi2
  go_wp2_with fail
  refine calls_alloc fun w7 hb7 hh7 => ?_
  have HB7 := Lib.hid (HB6.out.trans (hb7.mono HB6.out.size))
  have HI27 := Lib.hid (HI2.out.below hb7)
  have HNA := Lib.hid (HIN.out _ A1 _ c1 0 HB7.out (HI16.out.below hb7) hh7)
  clear hb7 hh7
  (with_reducible refine HNA.out.mono ?_)
  rintro e w8 ⟨rfl, hb8⟩
  have HB8 := Lib.hid (HB7.out.trans (hb8.mono HB7.out.size))
  have HI28 := Lib.hid (HI27.out.below hb8)
  clear hb8
  go_wp2_with fail
  refine calls_alloc fun w9 hb9 hh9 => ?_
  have HB9 := Lib.hid (HB8.out.trans (hb9.mono HB8.out.size))
  have HNB := Lib.hid (HIN.out _ A2 _ c2 1 HB9.out (HI28.out.below hb9) hh9)
  clear hb9 hh9
  (with_reducible refine HNB.out.mono ?_)
  rintro e w10 ⟨rfl, hb10⟩
  have HB10 := Lib.hid (HB9.out.trans (hb10.mono HB9.out.size))
  clear hb10
  go_wp2_with fail
  go_ret
  exact ⟨rfl, HB10.out⟩
end Go.Proofs.YtekoflcioooncaaDoor
