/-
  gimletlaw09.TreeMemory is true.
-/
import Derived.Test.YtopfbngdbhofkaaGreatDoorItZB
import Derived.Test.YtopfbngdbhofkaaGreatDoorItZC
import Derived.Test.YtopfbngdbhofkaaGreatDoorMeA
import Derived.Test.YtopfbngdbhofkaaGreatDoorItZE
import Derived.ChangeMaps5
namespace Go.Proofs.YtopfbngdbhofkaaGreatDoor
open Go.RowKit Go.Shelf

theorem evRow_at3 {w : World} {b B n : Nat} {e : TypeId} {evs : List Ev} {cs : List Value} {base : Nat} (h : w.ownsRow base e 8 (.slice (some ⟨b, 0, none⟩) n n) n cs) (hn : n = evs.length) (hr : EvRow w B n evs cs) : EvsAt w (some ⟨b, 0, none⟩) n evs := by
  refine ⟨hn, fun i hi => ?_⟩
  obtain ⟨A, m, c, h1, h2, _, h4⟩ := hr i hi (by omega)
  exact ⟨b, 0, A, m, c, rfl, (h.lt b rfl).2, h1, h2, fun j hj => by
    rw [Nat.zero_add, h.cellAt _ (by omega), h4 j hj]⟩
theorem first_node {evs : List Ev} (h : wholeB evs = true) : ∃ x e, (nodesB evs)[0]? = some x ∧ evs[x.pos]? = some e ∧ x.pos = 0 := by
  obtain ⟨t, ht, hne, _⟩ := wholeB_some h
  have hinv := nodesB_inv ht
  obtain ⟨e, l', rfl⟩ := List.exists_cons_of_ne_nil hne
  have h0 : begOk beg0 e = true := by
    unfold begAll at ht
    split at ht
    · assumption
    · cases ht
  have hk : e.kind ≠ 2 := by
    intro hk
    have := begOk_close h0 hk
    simp [beg0] at this
  have hnum := (begOk_new h0 hk).1
  obtain ⟨_, x, hx, hp⟩ := hinv.beg 0 e rfl hk
  have : e.num.toNat = 0 := by rw [hnum]; rfl
  rw [this] at hx
  exact ⟨x, e, hx, by rw [hp]; rfl, hp⟩
/-- a row of events that was made anew may be spoilt -/
theorem sp_of {w W : World} {base n : Nat} {evs : List Ev} {cs : List Value} (h : w.ownsRow base 50 8 (.slice (some ⟨base, 0, none⟩) n n) n cs) (hr : EvRowF w (base + 1) n evs cs) (hn : n = evs.length) (hl : ∀ e ∈ evs, e.ats.length ≤ 1048576) (hb : Below w.heap.size w W) : SP W base w.heap.size base n 0 W := by
  have hlt := (h.lt base rfl).2
  refine ⟨KpX.refl _ _ _, (RoomAt.own h).keep (hb.block _ hlt), fun i _ hin => ?_⟩
  obtain ⟨A, m, c, g1, g2⟩ := hr i (by omega) hin
  obtain ⟨A', c', e', k1, k2, k3⟩ := own_attrs g1
  cases e'
  have hml : m = evs[i].ats.length := k2.1
  have hc4 := g2 4 (by decide)
  rw [← h.cellAt _ (by omega)] at hc4
  refine ⟨A, m, c, (hb.cell (p := ⟨base, i * 8 + 4, none⟩) hlt).trans hc4, by rw [hml]; exact hl _ (List.getElem_mem (by omega)), k2.none, fun ad ha => ?_⟩
  subst ha
  obtain ⟨a'', c'', e'', _, _, h3⟩ := own_slice g1
  cases e''
  obtain ⟨g, rfl, hg1, hg2, _⟩ := h3 _ rfl
  exact ⟨g, rfl, by omega, hg2, by omega, (RoomAt.own g1).keep (hb.block _ hg2)⟩
set_option maxRecDepth 1000000 in
set_option maxHeartbeats 4000000 in
theorem treeMem_any (a : Option Addr) (n c : Nat) (evs : List Ev) (w : World) (hE : EvsAt w a n evs) (hw : wtEs evs ≤ 1048576) (hR : RangesAt w 2) (hT : Lib.Utf8Tabs 0 1 w) :
    Calls Tryz.prog 6 #[.slice a n c] w fun e w' => e = .returned (.bool true) ∧ Below w.heap.size w w' := by
  have hn : n ≤ 1048576 := by have := wtEs_length evs; have := hE.1; omega
  have hne := hE.1
  have hsm : ∀ e ∈ evs, EvSm e := fun e he => by
    obtain ⟨i, hi, rfl⟩ := List.getElem_of_mem he
    have h1 := Nat.le_trans (wtEs_mem evs i hi) hw
    unfold wtE at h1
    refine ⟨by omega, by omega, by have := wtA_length evs[i].ats; omega, fun p hp => ?_⟩
    have := wtA_mem evs[i].ats p hp
    omega
  have HRT : Hid (∀ W, Below w.heap.size w W → RangesAt W 2 ∧ Lib.Utf8Tabs 0 1 W) := Lib.hid fun W hW => ⟨hR.below hW, Utf8Tabs_below hT hW⟩
  have HAW : Hid (∀ W, Below w.heap.size w W → Calls Tryz.prog 7 #[] W fun e w' => e = .returned (.bool true) ∧ Below w.heap.size w w') := Lib.hid fun W hW => (awake_any W (HRT.out W hW).1 (HRT.out W hW).2).mono fun e w' ⟨h1, h2⟩ => ⟨h1, hW.trans (h2.mono hW.size)⟩
  have HCP : Hid (∀ W, Below w.heap.size w W → Calls Tryz.prog 9 #[.slice a n c] W fun e w' => ∃ cs, e = .returned (.slice (some ⟨W.heap.size, 0, none⟩) n n) ∧ w'.ownsRow W.heap.size 50 8 (.slice (some ⟨W.heap.size, 0, none⟩) n n) n cs ∧ EvRowF w' (W.heap.size + 1) n evs cs ∧ Below W.heap.size W w') := Lib.hid fun W hW =>
    lawCopiedF_any a n c evs W (hE.below hW) hn (fun e he => (hsm e he).2.2.1)
  have HBD : Hid (∀ W ge, Below w.heap.size w W → EvsAt W (some ⟨ge, 0, none⟩) n evs → Calls Tryz.prog 8 #[.slice (some ⟨ge, 0, none⟩) n n] W fun e w' => ((wholeB evs = true ∧ ∃ tb, e = .returned (.tuple #[.pointer (some ⟨tb, 0, none⟩), .int .i64 0]) ∧ TreeAt w' W.heap.size tb evs) ∨ (wholeB evs = false ∧ e = .returned (.tuple #[.pointer none, .int .i64 6]))) ∧ Below W.heap.size W w') := Lib.hid fun W ge hW hE2 =>
    treeBuild_any _ n n evs W hE2 hn hsm (HRT.out W hW).1 (HRT.out W hW).2
  obtain ⟨j0, hj, hjz0, hjz1, hjz2⟩ := info_parts infoAttr
  obtain ⟨i0, hi, hiz0, hiz1, hiz2⟩ := info_parts infoEv
  have HE := Lib.hid hE
  have HSM := Lib.hid hsm
  have HNE := Lib.hid hne
  clear hE hw hR hT hsm hne
  go_enter Tryz.func6, Tryz.ntmps6
  go_wp2_with fail
  have HN1 := Lib.hid (fun W => node_nil 0 W)
  have HN2 := Lib.hid (fun W => parent_nil 0 W)
  have HN3 := Lib.hid (fun W => value_nil (-1) W)
  have HN4 := Lib.hid (fun W => tprint_nil (-1) W)
  have HN5 := Lib.hid (fun W => len_nil W)
  have HN6 := Lib.hid (fun W => events_nil W)
  have HN7 : Hid (∀ W, Calls Tryz.prog 13 #[.pointer none, .int .i64 (-1), .int .i64 2] W fun e w' => ∃ A c, e = .returned (.slice A 0 c) ∧ Below W.heap.size W w') := Lib.hid fun W => (lawAlong_nil (-1) 2 W).mono fun e w' ⟨r, h1, h2, h3⟩ => by
    obtain ⟨A, c, rfl, _⟩ := own_slice h2
    exact ⟨A, c, h1, h3⟩
  (with_reducible refine (HN1.out _).mono ?_)
  rintro e wa ⟨rfl, hba⟩
  have HBA := Lib.hid hba
  clear hba
  unfold evC
  go_wp2_with fail
  (with_reducible refine (HN2.out _).mono ?_)
  rintro e w' ⟨rfl, hw'⟩
  subst w'
  go_wp2_with fail
  (with_reducible refine (HN3.out _).mono ?_)
  rintro e w' ⟨rfl, hw'⟩
  subst w'
  go_wp2_with fail
  (with_reducible refine (HN4.out _).mono ?_)
  rintro e w' ⟨rfl, hw'⟩
  subst w'
  go_wp2_with fail
  (with_reducible refine (HN5.out _).mono ?_)
  rintro e w' ⟨rfl, hw'⟩
  subst w'
  go_wp2_with fail
  (with_reducible refine (HN6.out _).mono ?_)
  rintro e w' ⟨rfl, hw'⟩
  subst w'
  go_wp2_with fail
  (with_reducible refine (HN7.out _).mono ?_)
  rintro e wc ⟨A7, c7, rfl, hbc⟩
  have HBC : Hid (Below w.heap.size w wc) := Lib.hid ((HBA.out.alloc HBA.out.size _).trans (hbc.mono (HBA.out.alloc HBA.out.size _).size))
  clear hbc
  go_wp2_with fail
  (with_reducible refine (HAW.out _ HBC.out).mono ?_)
  rintro e w3 ⟨rfl, hb3⟩
  have HB3 := Lib.hid hb3
  clear hb3
  go_wp2_with fail
  (with_reducible refine (HCP.out _ HB3.out).mono ?_)
  rintro e w4 ⟨csI, rfl, hinO, hinR, hb4⟩
  have HB4 := Lib.hid (HB3.out.trans (hb4.mono HB3.out.size))
  have HBD4 := Lib.hid (HBD.out w4 _ HB4.out (evRow_at3 hinO HNE.out hinR.row))
  have HIN := Lib.hid (⟨hinO, hinR⟩ : _ ∧ _)
  clear hinO hinR hb4
  go_wp2_with fail
  (with_reducible refine HBD4.out.mono ?_)
  rintro e w5 ⟨hor, hb5⟩
  have HB5 := Lib.hid (HB4.out.trans (hb5.mono HB4.out.size))
  have HB45 := Lib.hid hb5
  clear hb5
  rcases hor with ⟨hwh, tb, rfl, ht⟩ | ⟨_, rfl⟩
  rotate_left
  · go_wp2_with fail
    go_ret
    exact ⟨rfl, HB5.out⟩
  have hal : ∀ e ∈ evs, e.ats.length ≤ 1048576 := fun e he => (HSM.out e he).2.2.1
  have hne := HNE.out
  subst hne
  have HSPI := Lib.hid (spoil_any _ _ _ _ w5 (sp_of HIN.out.1 HIN.out.2 rfl hal HB45.out) (Nat.le_refl _) (HIN.out.1.lt _ rfl).2 hn)
  have HT := Lib.hid ht
  have HWH := Lib.hid hwh
  have HAL := Lib.hid hal
  clear ht hwh hal
  go_wp2_with fail
  (with_reducible refine HSPI.out.mono ?_)
  rintro e w6 ⟨⟨v6, rfl⟩, hk6⟩
  have hlt34 := (HIN.out.1.lt _ rfl).2
  have HB6 : Hid (Below w.heap.size w w6) := Lib.hid (HB5.out.trans (hk6.below HB5.out.size (fun k h1 h2 => by have := HB3.out.size; omega)))
  have HT6 : Hid (TreeAt w6 w4.heap.size tb evs) := Lib.hid (HT.out.keep hk6.size (fun j h1 h2 => hk6.block j h2 (by omega)))
  clear hk6 hlt34
  have HEVS : Hid (∀ W, Below w6.heap.size w6 W → Calls Tryz.prog 18 #[.pointer (some ⟨tb, 0, none⟩)] W fun e w' => ∃ cs, e = .returned (.slice (some ⟨W.heap.size, 0, none⟩) evs.length evs.length) ∧ w'.ownsRow W.heap.size 50 8 (.slice (some ⟨W.heap.size, 0, none⟩) evs.length evs.length) evs.length cs ∧ EvRowF w' (W.heap.size + 1) evs.length evs cs ∧ Below W.heap.size W w') := Lib.hid fun W hW =>
    eventsF_at tb evs W (HT6.out.below hW) HAL.out hn
  obtain ⟨x0, e0, hx0, he0, hp0⟩ := first_node HWH.out
  have HND : Hid (∀ W, Below w6.heap.size w6 W → Calls Tryz.prog 19 #[.pointer (some ⟨tb, 0, none⟩), .int .i64 0] W fun r w' => ∃ A m c, r = .returned (.tuple #[.agg (evC e0.kind e0.num e0.dep e0.name A m c e0.text e0.fr e0.tt), .int .i64 0]) ∧ w'.ownsRow W.heap.size 63 2 (.slice A m c) m (atC e0.ats) ∧ Below W.heap.size W w') := Lib.hid fun W hW =>
    nodeF_at tb 0 x0 e0 evs W (HT6.out.below hW) HWH.out hx0 he0 (HAL.out _ (List.mem_of_getElem? he0))
  go_wp2_with fail
  (with_reducible refine (HEVS.out _ (Below.refl _ _)).mono ?_)
  rintro e w7 ⟨csA, rfl, hao, har, hb7⟩
  have HA := Lib.hid (⟨hao, har⟩ : _ ∧ _)
  have HB67 := Lib.hid hb7
  clear hao har hb7
  go_wp2_with fail
  (with_reducible refine (HND.out _ HB67.out).mono ?_)
  rintro e w8 ⟨A8, m8, c8, rfl, hro, hb8⟩
  unfold evC
  go_wp2_with fail
  have hm8 : m8 = e0.ats.length := by have := hro.1; rw [atC_length] at this; omega
  have hm8l : m8 ≤ 1048576 := by rw [hm8]; exact HAL.out _ (List.mem_of_getElem? he0)
  have HRO : Hid (∀ o, Below w7.heap.size w7 (w8.alloc o) ∧ (w8.alloc o).heap[w8.heap.size]? = some o ∧ ∃ xs, (w8.alloc o).ownsRow w7.heap.size 63 2 (.slice A8 m8 c8) m8 xs) := Lib.hid fun o => ⟨hb8.alloc hb8.size o, heap_alloc_new w8 o, _, hro.alloc o⟩
  have HLT : Hid (∀ ad, A8 = some ad → ∃ g, ad = ⟨g, 0, none⟩ ∧ w7.heap.size ≤ g ∧ g < w8.heap.size) := Lib.hid (by
    obtain ⟨a', c', e', _, _, h3⟩ := own_slice hro
    cases e'
    intro ad ha
    obtain ⟨g, k1, k2, k3, _⟩ := h3 ad ha
    exact ⟨g, k1, k2, k3⟩)
  have HA0 : Hid (A8 = none → m8 = 0) := Lib.hid (by
    obtain ⟨a', c', e', _, h2, _⟩ := own_slice hro
    cases e'
    exact h2)
  have hs78 := hb8.size
  have HM8 := Lib.hid hm8
  clear hro hb8 hm8
  go_loopw [18] (fun iv wr => ∃ i : Nat, iv = .int .i64 i ∧ i ≤ m8 ∧ Hid (Below w7.heap.size w7 wr ∧ w8.heap.size < wr.heap.size ∧ wr.heap[w8.heap.size]? = some (.cells #[.int .i64 e0.kind, .int .i64 e0.num, .int .i64 e0.dep, .string (strL e0.name), .slice A8 m8 c8, .string (strL e0.text), .int .i64 e0.fr, .int .i64 e0.tt] 50 (0, 0)) ∧ ∃ xs, wr.ownsRow w7.heap.size 63 2 (.slice A8 m8 c8) m8 xs)) (fun iv _ => m8 - (intOf iv).toNat)
  case atStart => exact ⟨0, rfl, Nat.zero_le _, Lib.hid ⟨(HRO.out _).1, by simp, (HRO.out _).2.1, (HRO.out _).2.2⟩⟩
  case round =>
    obtain ⟨i, rfl, hi', HR⟩ := hrel
    have b4 : wr.cell? ⟨w8.heap.size, 4, none⟩ = some (.slice A8 m8 c8) := by rw [cell_heap HR.out.2.2.1]; rfl
    by_cases him : i < m8
    · obtain ⟨xs, hxs⟩ := HR.out.2.2.2
      obtain ⟨ad, rfl⟩ : ∃ ad, A8 = some ad := by
        cases A8 with
        | none => have := HA0.out rfl; omega
        | some ad => exact ⟨ad, rfl⟩
      obtain ⟨g, rfl, hg1, hg2⟩ := HLT.out _ rfl
      obtain ⟨x1, y1⟩ := own_cell hxs (i * 2 + 1) (by omega)
      have z := fun j => hxs.frozenAt j
      have HXS := Lib.hid hxs
      have i1 : (0 : Int) ≤ (i : Int) := by omega
      have i2 : (i : Int) < (m8 : Int) := by omega
      have ew : IntKind.i64.wrap ((i : Int) + 1) = (i : Int) + 1 := IntWalk.i64_in _ (by omega)
      clear hxs
      go_wp2_with fail
      go_roundw
      case rel => exact ⟨i + 1, by go_num, by omega, Lib.hid ⟨HR.out.1.setCell (p := ⟨g, i * 2 + 1, none⟩) hg1 _, by simp only [World.setCell, Array.size_modify]; exact HR.out.2.1, (Below.heap_setCell _ _ _ _ (by simp only; omega)).trans HR.out.2.2.1, _, (HXS.out.stored (i * 2 + 1) _).1⟩⟩
      case measure => simp [intOf]; omega
    · have him2 : i = m8 := by omega
      subst him2
      obtain ⟨xs, hxs⟩ := HR.out.2.2.2
      have HXS := Lib.hid hxs
      have hm1 : i + 1 ≤ 4294967296 := by omega
      have HLB : Hid (∀ k, Value.ownBlock (.slice A8 i c8) = some k → w7.heap.size ≤ k ∧ k < w8.heap.size) := Lib.hid fun k hk => by
        cases A8 with
        | none => cases hk
        | some ad =>
          obtain ⟨g, rfl, hg1, hg2⟩ := HLT.out _ rfl
          cases hk
          exact ⟨hg1, hg2⟩
      clear hxs
      go_wp2_with (at_builtin; go_must ((refine wpList_app _ (by rfl) _ _ 48 (by rfl) w7.heap.size 63 j0 (.agg #[.string ⟨#[]⟩, .string ⟨#[]⟩]) 2 32 Tryz.underlying48 hj hjz0 hjz1 hjz2 (by rfl) (by decide) (.slice A8 i c8) i xs (by rfl) HXS.out _ rfl 1 [.string ⟨#[109, 111, 114, 101]⟩, .string ⟨#[]⟩] (by rfl) (by rfl) (by intro u hu; simp only [List.mem_cons, List.not_mem_nil, or_false] at hu; rcases hu with rfl | rfl <;> rfl) hm1 (by decide) HR.out.1.size (fun v9 w9 hown9 hap9 => ?_)); (obtain ⟨oa9, oc9, rfl, _, _, _⟩ := own_slice hown9); have hb9 : Below w7.heap.size w7 w9 := (HR.out.1.alloc HR.out.1.size _).trans (hap9.below (by have := HR.out.1.size; simp; omega) (fun k hk => (HLB.out k hk).1)); have hbx9 := (hap9.keep (k := w8.heap.size) (by have := HR.out.2.1; simp; omega) (fun e => by have := (HLB.out _ e).2; omega)).trans ((Below.heap_alloc _ _ _ HR.out.2.1).trans HR.out.2.2.1); have d4 : w9.cell? ⟨w8.heap.size, 4, none⟩ = some (.slice A8 i c8) := (by rw [cell_heap hbx9]; rfl); have z9 : ∀ j, w9.frozen? ⟨w8.heap.size, j, none⟩ = false := (fun j => frozen_heap hbx9)))
      have HB9 : Hid (Below w7.heap.size w7 (w9.setCell ⟨w8.heap.size, 4, none⟩ (.slice oa9 (i + 1) oc9))) := Lib.hid (hb9.setCell (p := ⟨w8.heap.size, 4, none⟩) hs78 _)
      clear hb9 hbx9 hown9 hap9
      go_wp2_with fail
      obtain ⟨w10, hw10⟩ : ∃ w10, w9.setCell ⟨w8.heap.size, 4, none⟩ (.slice oa9 (i + 1) oc9) = w10 := ⟨_, rfl⟩
      rw [hw10] at HB9 ⊢
      clear hw10
      have HB610 : Hid (Below w6.heap.size w6 w10) := Lib.hid (HB67.out.trans (HB9.out.mono HB67.out.size))
      clear d4 z9 b4 HR HXS hm1
      (with_reducible refine (HEVS.out _ HB610.out).mono ?_)
      rintro e w11 ⟨csB, rfl, hbo, hbr, hb11⟩
      have HB711 := Lib.hid (HB9.out.trans (hb11.mono HB9.out.size))
      have HBR := Lib.hid (⟨hbo, hbr⟩ : _ ∧ _)
      have HSPA := Lib.hid (spoil_any _ _ _ _ w11 (sp_of HA.out.1 HA.out.2 rfl HAL.out HB711.out) (Nat.le_refl _) (HA.out.1.lt _ rfl).2 hn)
      have hs10 := HB9.out.size
      have hs11 := hb11.size
      clear hbo hbr hb11
      go_wp2_with fail
      (with_reducible refine HSPA.out.mono ?_)
      rintro e w12 ⟨⟨v12, rfl⟩, hk12⟩
      have hs67 := HB67.out.size
      have HB611 : Hid (Below w6.heap.size w6 w11) := Lib.hid (HB67.out.trans (HB711.out.mono HB67.out.size))
      have HB12 : Hid (Below w.heap.size w w12) := Lib.hid ((HB6.out.trans (HB611.out.mono HB6.out.size)).trans (hk12.below (by have := HB6.out.size; omega) (fun k h1 h2 => by have := HB6.out.size; omega)))
      have hs611 := HB611.out.size
      have hs12 := hk12.size
      have HTJ : ∀ j, w4.heap.size ≤ j → j < w6.heap.size → w12.heap[j]? = w6.heap[j]? := fun j h1 h2 => (hk12.block j (by omega) (by omega)).trans (HB611.out.block j h2)
      have HBO12 : Hid (w12.ownsRow w10.heap.size 50 8 (.slice (some ⟨w10.heap.size, 0, none⟩) evs.length evs.length) evs.length csB) := Lib.hid (own_block HBR.out.1 (fun k hk => by have h1 := HBR.out.1.lt k hk; exact hk12.block k h1.2 (by omega)))
      have HBR12 : Hid (EvRowF w12 (w10.heap.size + 1) evs.length evs csB) := Lib.hid fun q hq hq2 => by
        obtain ⟨A, m, c, k1, k2⟩ := HBR.out.2 q hq hq2
        exact ⟨A, m, c, own_block k1 (fun k hk => by have h1 := k1.lt k hk; exact hk12.block k h1.2 (by omega)), k2⟩
      have hs1012 : w10.heap.size ≤ w12.heap.size := by omega
      have hl1 : evs.length + 1 ≤ 4294967296 := by omega
      clear hk12 hs10 hs11 hs67 hs611 hs12 hs78
      have HTW : Hid (∀ W, Below w10.heap.size w12 W → TreeAt W w4.heap.size tb evs) := Lib.hid fun W hW => HT6.out.keep (by have := hW.size; have := HB610.out.size; omega) (fun j h1 h2 => (hW.block j (by have := HB610.out.size; omega)).trans (HTJ j h1 h2))
      have HEVS2 : Hid (∀ W, Below w10.heap.size w12 W → Calls Tryz.prog 18 #[.pointer (some ⟨tb, 0, none⟩)] W fun e w' => ∃ b, e = .returned (.slice (some ⟨b, 0, none⟩) evs.length evs.length) ∧ EvsAt w' (some ⟨b, 0, none⟩) evs.length evs ∧ Below W.heap.size W w') := Lib.hid fun W hW =>
        (eventsF_at tb evs W (HTW.out W hW) HAL.out hn).mono fun e w' ⟨cs, h1, h2, h3, h4⟩ => ⟨_, h1, evRow_at3 h2 rfl h3.row, h4⟩
      have HND2 : Hid (∀ W, Below w10.heap.size w12 W → Calls Tryz.prog 19 #[.pointer (some ⟨tb, 0, none⟩), .int .i64 0] W fun r w' => ∃ A m c, r = .returned (.tuple #[.agg (evC e0.kind e0.num e0.dep e0.name A m c e0.text e0.fr e0.tt), .int .i64 0]) ∧ AttrsAt w' A m e0.ats ∧ Below W.heap.size W w') := Lib.hid fun W hW =>
        (nodeF_at tb 0 x0 e0 evs W (HTW.out W hW) HWH.out hx0 he0 (HAL.out _ (List.mem_of_getElem? he0))).mono fun e w' ⟨A, m, c, h1, h2, h3⟩ => by
          obtain ⟨a', c', e', _, h6, _⟩ := own_attrs h2
          cases e'
          exact ⟨A, m, c, h1, h6, h3⟩
      go_wp2_with (at_builtin; go_must ((refine wpList_app _ (by rfl) _ _ 22 (by rfl) w10.heap.size 50 i0 _ 8 96 Tryz.underlying22 hi hiz0 hiz1 hiz2 (by rfl) (by decide) (.slice (some ⟨w10.heap.size, 0, none⟩) evs.length evs.length) evs.length csB (by rfl) HBO12.out _ rfl 1 [.int .i64 0, .int .i64 9, .int .i64 0, .string ⟨#[]⟩, .slice none 0 0, .string ⟨#[]⟩, .int .i64 0, .int .i64 0] (by rfl) (by rfl) (by intro u hu; simp only [List.mem_cons, List.not_mem_nil, or_false] at hu; rcases hu with rfl | rfl | rfl | rfl | rfl | rfl | rfl | rfl <;> rfl) hl1 (by decide) hs1012 (fun v13 w13 hown13 hap13 => ?_)); (obtain ⟨g13, oc13, rfl, hle13, hg13, hg13', _, _⟩ := own_some hown13)))
      have hb13 : Below w10.heap.size w12 w13 := ((Below.refl _ _).alloc hs1012 _).trans (hap13.below (by simp; omega) (fun k hk => by cases hk; exact Nat.le_refl _))
      have HB13 : Hid (Below w10.heap.size w12 w13) := Lib.hid hb13
      have HEB : Hid (EvsAt w13 (some ⟨g13, 0, none⟩) evs.length evs) := Lib.hid ⟨rfl, fun q hq => by
        obtain ⟨A, m, c, k1, k2⟩ := HBR12.out q hq hq
        have k1' := own_block k1 (fun k hk => (hap13.keep (k := k) (by have := (k1.lt k hk).2; simp; omega) (fun e => by have e' : w10.heap.size = k := Option.some.inj e; have := (k1.lt k hk).1; omega)).trans (Below.heap_alloc _ _ _ (k1.lt k hk).2))
        obtain ⟨a', c', e', g5, g6, _⟩ := own_attrs k1'
        cases e'
        refine ⟨g13, 0, A, m, c, rfl, hg13', g5, g6, fun j hj => ?_⟩
        have hcl := HBO12.out.1
        rw [Nat.zero_add, hown13.cellAt _ (by omega), List.getElem?_append_left (by omega), k2 j hj]⟩
      have HBW13 : Hid (Below w.heap.size w w13) := Lib.hid (HB12.out.trans (hb13.mono (by have := HB610.out.size; have := HB6.out.size; omega)))
      clear hb13 hap13 hown13
      (with_reducible refine (HND2.out _ HB13.out).mono ?_)
      rintro e w14 ⟨A14, m14, c14, rfl, hA14, hb14⟩
      unfold evC
      have hb14' := HB13.out.trans (hb14.mono (by have := HB13.out.size; omega))
      have HA14 := Lib.hid (⟨hA14, hb14⟩ : _ ∧ _)
      have HB14 : Hid (Below w10.heap.size w12 w14) := Lib.hid hb14'
      clear hA14 hb14 hb14'
      go_wp2_with fail
      have h0l : 0 < evs.length := by
        have := get_lt he0
        omega
      obtain ⟨b0, o0, A0, m0, c0, ha0, hb0, _, hA0, k0⟩ := HE.out.at8 0 h0l
      have hev0 : evs[0] = e0 := by
        rw [hp0, List.getElem?_eq_getElem h0l] at he0
        exact Option.some.inj he0
      simp only [hev0, Nat.zero_mul, Nat.add_zero] at hA0 k0
      obtain ⟨W15, hW15⟩ : ∃ W15, w14.alloc (.cells #[.int .i64 e0.kind, .int .i64 e0.num, .int .i64 e0.dep, .string (strL e0.name), .slice A14 m14 c14, .string (strL e0.text), .int .i64 e0.fr, .int .i64 e0.tt] 50) = W15 := ⟨_, rfl⟩
      have hx15 : W15.heap[w14.heap.size]? = some (.cells #[.int .i64 e0.kind, .int .i64 e0.num, .int .i64 e0.dep, .string (strL e0.name), .slice A14 m14 c14, .string (strL e0.text), .int .i64 e0.fr, .int .i64 e0.tt] 50 (0, 0)) := by rw [← hW15]; exact heap_alloc_new w14 _
      have hb1315 : Below w13.heap.size w13 W15 := by rw [← hW15]; exact HA14.out.2.alloc HA14.out.2.size _
      have hs1415 : w14.heap.size < W15.heap.size := by rw [← hW15]; simp
      have hb1415 : Below w14.heap.size w14 W15 := by rw [← hW15]; exact (Below.refl _ _).alloc (Nat.le_refl _) _
      have hb15 : Below w.heap.size w W15 := HBW13.out.trans (hb1315.mono HBW13.out.size)
      have hb1215 : Below w10.heap.size w12 W15 := HB13.out.trans (hb1315.mono (by have := HB13.out.size; omega))
      rw [hW15]
      clear hW15
      have hml0 : m14 ≤ 1048576 := by rw [HA14.out.1.1]; exact HAL.out _ (List.mem_of_getElem? he0)
      have HS : Hid (∀ W, Below W15.heap.size W15 W → W.cell? ⟨w14.heap.size, 0, none⟩ = some (.int .i64 e0.kind) ∧ W.cell? ⟨w14.heap.size, 1, none⟩ = some (.int .i64 e0.num) ∧ W.cell? ⟨w14.heap.size, 2, none⟩ = some (.int .i64 e0.dep) ∧ W.cell? ⟨w14.heap.size, 3, none⟩ = some (.string (strL e0.name)) ∧ W.cell? ⟨w14.heap.size, 4, none⟩ = some (.slice A14 m14 c14) ∧ W.cell? ⟨w14.heap.size, 5, none⟩ = some (.string (strL e0.text)) ∧ W.cell? ⟨w14.heap.size, 6, none⟩ = some (.int .i64 e0.fr) ∧ W.cell? ⟨w14.heap.size, 7, none⟩ = some (.int .i64 e0.tt) ∧ W.cell? ⟨b0, o0, none⟩ = some (.int .i64 e0.kind) ∧ W.cell? ⟨b0, o0 + 1, none⟩ = some (.int .i64 e0.num) ∧ W.cell? ⟨b0, o0 + 2, none⟩ = some (.int .i64 e0.dep) ∧ W.cell? ⟨b0, o0 + 3, none⟩ = some (.string (strL e0.name)) ∧ W.cell? ⟨b0, o0 + 4, none⟩ = some (.slice A0 m0 c0) ∧ W.cell? ⟨b0, o0 + 5, none⟩ = some (.string (strL e0.text)) ∧ W.cell? ⟨b0, o0 + 6, none⟩ = some (.int .i64 e0.fr) ∧ W.cell? ⟨b0, o0 + 7, none⟩ = some (.int .i64 e0.tt) ∧ Below W15.heap.size W15 W) := Lib.hid fun W hW => by
        have hc := (hW.block _ hs1415).trans hx15
        obtain ⟨q0, q1, q2, q3, q4, q5, q6, q7⟩ := k0 W (hb15.trans (hW.mono hb15.size))
        exact ⟨by rw [cell_heap hc]; rfl, by rw [cell_heap hc]; rfl, by rw [cell_heap hc]; rfl, by rw [cell_heap hc]; rfl, by rw [cell_heap hc]; rfl, by rw [cell_heap hc]; rfl, by rw [cell_heap hc]; rfl, by rw [cell_heap hc]; rfl, q0, q1, q2, q3, q4, q5, q6, q7, hW⟩
      have HEV15 : Hid (∀ W, Below W15.heap.size W15 W → Calls Tryz.prog 18 #[.pointer (some ⟨tb, 0, none⟩)] W fun e w' => ∃ b, e = .returned (.slice (some ⟨b, 0, none⟩) evs.length evs.length) ∧ EvsAt w' (some ⟨b, 0, none⟩) evs.length evs ∧ Below W15.heap.size W15 w') := Lib.hid fun W hW =>
        (HEVS2.out W (hb1215.trans (hW.mono (by have := hb1215.size; have := HB13.out.size; omega)))).mono fun e w' ⟨b, h1, h2, h3⟩ => ⟨b, h1, h2, hW.trans (h3.mono hW.size)⟩
      have HAL1 : Hid (∀ W b, Below W15.heap.size W15 W → EvsAt W (some ⟨b, 0, none⟩) evs.length evs → Calls Tryz.prog 16 #[.slice (some ⟨b, 0, none⟩) evs.length evs.length, .slice a evs.length c] W fun e w' => e = .returned (.bool true) ∧ Below W15.heap.size W15 w') := Lib.hid fun W b hW hEb =>
        (all_any _ a evs.length _ c evs W hEb (HE.out.below (hb15.trans (hW.mono hb15.size))) hn HAL.out).mono fun e w' ⟨h1, h2⟩ => ⟨h1, hW.trans (h2.mono hW.size)⟩
      have HAL2 : Hid (∀ W, Below W15.heap.size W15 W → Calls Tryz.prog 16 #[.slice (some ⟨g13, 0, none⟩) evs.length oc13, .slice a evs.length c] W fun e w' => e = .returned (.bool true) ∧ Below W15.heap.size W15 w') := Lib.hid fun W hW =>
        (all_any _ a evs.length _ c evs W (HEB.out.below (hb1315.trans (hW.mono hb1315.size))) (HE.out.below (hb15.trans (hW.mono hb15.size))) hn HAL.out).mono fun e w' ⟨h1, h2⟩ => ⟨h1, hW.trans (h2.mono hW.size)⟩
      have HSM15 : Hid (∀ W, Below W15.heap.size W15 W → Calls Tryz.prog 20 #[.agg #[.int .i64 e0.kind, .int .i64 e0.num, .int .i64 e0.dep, .string (strL e0.name), .slice A14 m14 c14, .string (strL e0.text), .int .i64 e0.fr, .int .i64 e0.tt], .agg #[.int .i64 e0.kind, .int .i64 e0.num, .int .i64 e0.dep, .string (strL e0.name), .slice A0 m0 c0, .string (strL e0.text), .int .i64 e0.fr, .int .i64 e0.tt]] W fun e w' => e = .returned (.bool true) ∧ Below W15.heap.size W15 w') := Lib.hid fun W hW =>
        (same_any e0 A14 A0 m14 c14 m0 c0 W (HA14.out.1.below (hb1415.trans (hW.mono hb1415.size))) (hA0.below (hb15.trans (hW.mono hb15.size))) hml0).mono fun e w' ⟨h1, h2⟩ => ⟨h1, hW.trans (h2.mono hW.size)⟩
      have HBF : Hid (∀ W, Below W15.heap.size W15 W → Below w.heap.size w W) := Lib.hid fun W hW => hb15.trans (hW.mono hb15.size)
      have u0 : (0 : Int) ≤ (evs.length : Int) := by omega
      have u1 : (evs.length : Int) ≤ (oc13 : Int) := by omega
      have u2 : IntKind.i64.wrap ((evs.length : Int) + 1 - 1) = (evs.length : Int) := by rw [show (evs.length : Int) + 1 - 1 = (evs.length : Int) by omega]; exact IntWalk.i64_in _ (by omega)
      have u3 : IntKind.i64.wrap (evs.length : Int) = (evs.length : Int) := IntWalk.i64_in _ (by omega)
      have u4 : (0 : Int) < (evs.length : Int) := by omega
      have u5 : 0 < evs.length := by omega
      have u6 : evs ≠ [] := by intro h; rw [h] at u5; simp at u5
      have HDR := (Below.refl W15.heap.size W15).drew
      have hst := HS.out W15 (Below.refl _ _)
      obtain ⟨r0, r1, r2, r3, r4, r5, r6, r7, t0, t1, t2, t3, t4, t5, t6, t7, _⟩ := hst
      clear hx15 hb1315 hs1415 hb1415 hb15 hb1215 hml0 hev0 k0 hA0 h0l
      subst ha0
      clear HIN HSPI HT HT6 HTW HTJ HEVS HND HEVS2 HND2 HBO12 HBR12 HBR HA HB9 HSPA HB711 HB610 HB611
      go_region_held3 (fun w' => w'.cell? ⟨w14.heap.size, 0, none⟩ = some (.int .i64 e0.kind) ∧ w'.cell? ⟨w14.heap.size, 1, none⟩ = some (.int .i64 e0.num) ∧ w'.cell? ⟨w14.heap.size, 2, none⟩ = some (.int .i64 e0.dep) ∧ w'.cell? ⟨w14.heap.size, 3, none⟩ = some (.string (strL e0.name)) ∧ w'.cell? ⟨w14.heap.size, 4, none⟩ = some (.slice A14 m14 c14) ∧ w'.cell? ⟨w14.heap.size, 5, none⟩ = some (.string (strL e0.text)) ∧ w'.cell? ⟨w14.heap.size, 6, none⟩ = some (.int .i64 e0.fr) ∧ w'.cell? ⟨w14.heap.size, 7, none⟩ = some (.int .i64 e0.tt) ∧ w'.cell? ⟨b0, o0, none⟩ = some (.int .i64 e0.kind) ∧ w'.cell? ⟨b0, o0 + 1, none⟩ = some (.int .i64 e0.num) ∧ w'.cell? ⟨b0, o0 + 2, none⟩ = some (.int .i64 e0.dep) ∧ w'.cell? ⟨b0, o0 + 3, none⟩ = some (.string (strL e0.name)) ∧ w'.cell? ⟨b0, o0 + 4, none⟩ = some (.slice A0 m0 c0) ∧ w'.cell? ⟨b0, o0 + 5, none⟩ = some (.string (strL e0.text)) ∧ w'.cell? ⟨b0, o0 + 6, none⟩ = some (.int .i64 e0.fr) ∧ w'.cell? ⟨b0, o0 + 7, none⟩ = some (.int .i64 e0.tt) ∧ Below W15.heap.size W15 w') (first | exact HS.out _ ‹_› | exact HS.out _ HDR) (first | (go_at_call 18; (with_reducible refine (HEV15.out _ ‹_›).mono ?_); rintro e w20 ⟨b20, rfl, hE20, hb20⟩) | (go_at_call 16; (with_reducible refine (HAL2.out _ ‹_›).mono ?_); rintro e w22 ⟨rfl, hb22⟩) | (go_at_call 16; (with_reducible refine (HAL1.out _ _ ‹_› ‹EvsAt _ (some _) _ _›).mono ?_); rintro e w21 ⟨rfl, hb21⟩) | (go_at_call 20; (with_reducible refine (HSM15.out _ ‹_›).mono ?_); rintro e w23 ⟨rfl, hb23⟩))
      have HFIN := Lib.hid (HBF.out _ hb23)
      clear r0 r1 r2 r3 r4 r5 r6 r7 t0 t1 t2 t3 t4 t5 t6 t7
      go_wp2_with fail
      go_ret
      exact ⟨rfl, HFIN.out⟩
end Go.Proofs.YtopfbngdbhofkaaGreatDoor

/-
  TreeMemory, where what it reads is of bulk at most 1048576: for every such argument the law returns true, and it reads as before: the row's statement and its card. Condition: the bulk bound of the statement itself.
-/
namespace Go.Proofs.YtopfbngdbhofkaaGreatDoor.treeMemory
open Go.ChangeShapes Go.WideShapes Go.ChangeAt Go.RowKit
open Go.ChangeMaps (open_string shut_string)

theorem at_laid {W : World} (hL : laidMetH Tryz.prog Rows.treeMemoryUptoRow.laid W) : RangesAt W 2 ∧ Lib.Utf8Tabs 0 1 W := at_laid3 hL

set_option maxRecDepth 100000 in
theorem contract (H : Type) (enc : TypeId × Value → H) (W : World) (base : Nat) (args : Array Value) (ds gs : List (DataW H)) (before : List MemPlace)
    (hval : ∀ (j : Nat) t v, Tryz.f6.params[j]? = some t → args[j]? = some v → Value.okWide Tryz.prog W .any base t v)
    (hW : DataW.Whole enc Tryz.prog Tryz.f6.params.toList Rows.treeMemorySpec.vars false W args.toList ds gs before) (hk : Rows.uptoSmall H (ds ++ gs) = true) (hL : laidMetH Tryz.prog Rows.treeMemoryUptoRow.laid W) :
    Calls Tryz.prog 6 args W fun e W' => ∃ v, e = .returned v ∧ Rows.treeMemorySpec.post enc Tryz.prog Tryz.f6 false true false false W args v W' := by
  have hW' := hW
  obtain ⟨p, q, hA0, hV, rfl, hfz, hnd⟩ := hW
  have hA : DataW.TrodAll enc Tryz.prog W 0 (fun _ => true) true Tryz.f6.params.toList args.toList ds p := hA0
  rw [Tryz.params6] at hA hval
  obtain ⟨v0, vs0, d0, ds0, p0, q0, hargs, rfl, rfl, h0, r0⟩ := trodAll_cons hA
  obtain ⟨rfl, rfl, rfl⟩ := trodAll_nil r0
  obtain rfl : args = #[v0] := by cases args; simp_all
  obtain ⟨rfl, rfl⟩ := trodVars_none hV
  obtain ⟨a0, n0, c0, rfl⟩ := okWide_slice Tryz.underlying22 (hval 0 22 v0 rfl rfl)
  have hO0 : EvsAt W a0 n0 (evsOf d0) ∧ wtEs (evsOf d0) ≤ Rows.uptoBulk d0 := by
    obtain ⟨fuel, hf⟩ := h0
    obtain ⟨a9, n9, c9, hcs, hnc, hO, hw⟩ := evs_read hf
    simp [Value.cells] at hcs
    obtain ⟨rfl, rfl, rfl⟩ := hcs
    exact ⟨hO, hw⟩
  clear hA0
  simp only [List.append_nil] at hW' hk
  have hb : Rows.uptoBulkAll [d0] ≤ 1048576 := of_decide_eq_true hk
  simp only [Rows.uptoBulkAll] at hb
  have hbe0 : Rows.uptoBulk d0 ≤ 1048576 := by omega
  have hlt0 : ∀ x ∈ p0, x.block < W.heap.size := fun x hx => hW'.lt x (by simp [hx])
  refine (treeMem_any a0 n0 c0 (evsOf d0) W hO0.1 (Nat.le_trans hO0.2 hbe0) (at_laid hL).1 (at_laid hL).2).mono fun e W' ⟨he, bel⟩ => ?_
  subst he
  refine ⟨_, rfl, _, _, _, [], p0 ++ [], [], hW', ?_, ?_, rfl, bel.frame _, fun h => by cases h⟩
  · exact trodAll_cons_mk (shut_bool Tryz.underlying4 _) trodAll_mk0
  · exact trodAll_cons_mk (Below.trod laidOut (by kernel_rfl) (of_decide_eq_true (by kernel_rfl)) h0 bel hlt0) trodAll_mk0

theorem reads (os : Os) {H : Type} (enc : TypeId × Value → H) : ∃ places, DataW.whole enc Tryz.prog ((laidWorld3 os).forCall (fun _ _ => 0) ⟨#[], #[.slice none 0 0], []⟩).memory Tryz.f6.params.toList Rows.treeMemorySpec.vars false (#[.slice none 0 0] : Array Value).toList 8 = some ([.nil], [], places) :=
  ⟨[], by kernel_rfl⟩

set_option maxRecDepth 100000 in
theorem lifted (os : Os) (started : os.Started) (H : Type) (enc : TypeId × Value → H) (F : Stop.Interp) :
    ReturnsInHanded {} Tryz.checked os 6 .any ((Rows.OpenSpec.upto Rows.treeMemorySpec).preRow enc Tryz.prog Tryz.f6 Rows.treeMemoryUptoRow.domain false Rows.treeMemoryUptoRow.laid) (((Rows.OpenSpec.upto Rows.treeMemorySpec).at F).post enc Tryz.prog Tryz.f6 false true false false) := by
  obtain ⟨places, hx⟩ := reads os enc
  refine returnsInHanded_of_row (C := Tryz.checked) (s := Rows.OpenSpec.upto Rows.treeMemorySpec) own' started (by kernel_rfl) Tryz.func6
    (witness_row_atRef (enc := enc) (C := Tryz.checked) false (laidWorld3 os) #[.slice none 0 0] rfl (by kernel_rfl) (by kernel_rfl) (by kernel_rfl)
      (OpenSpec.preRow_of_cond 8 hx (by kernel_rfl) (fun k hk => by cases hk; kernel_rfl) (by kernel_rfl) (laid_met3 os _))) ?_
  intro W base args ds gs before hval hW _ hcond _ hL _ _
  exact contract H enc W base args ds gs before hval hW (hcond _ rfl) hL

theorem proved : Rows.TreeMemoryUptoSaid :=
  OpenClaim.holds_of_cond 6 Tryz.f6 rfl rfl rfl rfl rfl rfl rfl ⟨rfl, rfl, rfl, rfl, rfl⟩ rfl rfl rfl rfl rfl (by kernel_rfl) Tryz.func6 (by kernel_rfl)
    (of_decide_eq_true (by kernel_rfl)) (by unfold Func.isWrapper; first | (rw [if_pos (by decide +kernel)]; kernel_rfl) | (rw [if_neg (by decide +kernel)]; exact ⟨rfl, rfl⟩))
    (fun os started H enc _ F => by rw [OpenClaim.pre_eq_preRow]; exact lifted os started H enc F)

theorem plain (f : FuncId) (fn : Func) (hf : Tryz.pinned.checked.prog.funcNamed "gimlet/gimletlaw09.TreeMemory" = some f) (hfn : Tryz.pinned.checked.prog.funcs[f]? = some fn) :
    true = Tryz.pinned.checked.prog.looks [] ∧ ∀ (j : Nat) t, fn.params[j]? = some t → Tryz.pinned.checked.prog.wantsStandIn t = false := by
  obtain rfl : f = 6 := Option.some.inj ((show Tryz.prog.funcNamed "gimlet/gimletlaw09.TreeMemory" = some 6 by kernel_rfl).symm.trans hf) |>.symm
  obtain rfl : fn = Tryz.f6 := (Option.some.inj (Tryz.func6.symm.trans hfn)).symm
  refine ⟨by kernel_rfl, fun j t ht => ?_⟩
  rw [Tryz.params6] at ht
  have hm := Array.mem_of_getElem? ht
  obtain rfl : t = 22 := by simpa using hm
  exact (show Tryz.prog.wantsStandIn 22 = false by kernel_rfl)

theorem card : Rows.TreeMemoryUptoCardSaid :=
  Claim7.holds_tied_plain_at .later [] _ _ _ _ proved (fun _ h => by cases h) (by kernel_rfl) (fun _ h => by cases h) treeMemoryUpto_row_tie rfl ⟨rfl, rfl⟩ (by kernel_rfl) rfl plain (by kernel_rfl)
#print axioms card
end Go.Proofs.YtopfbngdbhofkaaGreatDoor.treeMemory
