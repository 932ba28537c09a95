/-
  gimletlaw09.TreeBuilt is true.
-/
import Derived.Test.YtopfbngdbhofkaaGreatDoorItZB
import Derived.Test.YtopfbngdbhofkaaGreatDoorItZC
import Derived.Test.YtopfbngdbhofkaaGreatDoorBtA
import Derived.Test.YtopfbngdbhofkaaGreatDoorBtB
import Derived.Test.YtopfbngdbhofkaaGreatDoorBtF
import Derived.Test.YtopfbngdbhofkaaGreatDoorBtH
import Derived.Test.YtopfbngdbhofkaaGreatDoorBtI
namespace Go.Proofs.YtopfbngdbhofkaaGreatDoor
open Go.RowKit Go.Shelf

theorem evRow_at4 {w : World} {b B n : Nat} {e : TypeId} {evs : List Ev} {cs : List Value} {base : Nat} (h : w.ownsRow base e 8 (.slice (some ⟨b, 0, none⟩) n n) n cs) (hn : n = evs.length) (hr : EvRow w B n evs cs) : EvsAt w (some ⟨b, 0, none⟩) n evs := by
  refine ⟨hn, fun i hi => ?_⟩
  obtain ⟨A, m, c, h1, h2, _, h4⟩ := hr i hi (by omega)
  exact ⟨b, 0, A, m, c, rfl, (h.lt b rfl).2, h1, h2, fun j hj => by
    rw [Nat.zero_add, h.cellAt _ (by omega), h4 j hj]⟩
set_option maxRecDepth 1000000 in
set_option maxHeartbeats 4000000 in
theorem treeBuilt_any2 (a : Option Addr) (n c : Nat) (evs : List Ev) (w : World) (hE : EvsAt w a n evs) (hw : wtEs evs ≤ 1048576) (hR : RangesAt w 2) (hT : Lib.Utf8Tabs 0 1 w) :
    Calls Tryz.prog 5 #[.slice a n c] w fun e w' => e = .returned (.bool true) ∧ Below w.heap.size w w' := by
  have hn : n ≤ 1048576 := by have := wtEs_length evs; have := hE.1; omega
  have hne := hE.1
  have hsm : ∀ e ∈ evs, EvSm e := fun e he => by
    obtain ⟨i, hi, rfl⟩ := List.getElem_of_mem he
    have h1 := Nat.le_trans (wtEs_mem evs i hi) hw
    unfold wtE at h1
    refine ⟨by omega, by omega, by have := wtA_length evs[i].ats; omega, fun p hp => ?_⟩
    have := wtA_mem evs[i].ats p hp
    omega
  have HRT : Hid (∀ W, Below w.heap.size w W → RangesAt W 2 ∧ Lib.Utf8Tabs 0 1 W) := Lib.hid fun W hW => ⟨hR.below hW, Utf8Tabs_below hT hW⟩
  have HAW : Hid (∀ W, Below w.heap.size w W → Calls Tryz.prog 7 #[] W fun e w' => e = .returned (.bool true) ∧ Below W.heap.size W w') := Lib.hid fun W hW => awake_any W (HRT.out W hW).1 (HRT.out W hW).2
  have HCP : Hid (∀ W, Below w.heap.size w W → Calls Tryz.prog 9 #[.slice a n c] W fun e w' => ∃ ge, e = .returned (.slice (some ⟨ge, 0, none⟩) n n) ∧ EvsAt w' (some ⟨ge, 0, none⟩) n evs ∧ Below W.heap.size W w') := Lib.hid fun W hW =>
    (lawCopied_any a n c evs W (hE.below hW) hn (fun e he => (hsm e he).2.2.1)).mono fun e w' ⟨cs, h1, h2, h3, h4⟩ => ⟨_, h1, evRow_at4 h2 hne h3, h4⟩
  have HBD : Hid (∀ W ge, Below w.heap.size w W → EvsAt W (some ⟨ge, 0, none⟩) n evs → Calls Tryz.prog 8 #[.slice (some ⟨ge, 0, none⟩) n n] W fun e w' => ((wholeB evs = true ∧ ∃ tb, e = .returned (.tuple #[.pointer (some ⟨tb, 0, none⟩), .int .i64 0]) ∧ TreeAt w' W.heap.size tb evs) ∨ (wholeB evs = false ∧ e = .returned (.tuple #[.pointer none, .int .i64 6]))) ∧ Below W.heap.size W w') := Lib.hid fun W ge hW hE2 =>
    treeBuild_any _ n n evs W hE2 hn hsm (HRT.out W hW).1 (HRT.out W hW).2
  have HE := Lib.hid hE
  have HSM := Lib.hid hsm
  have HWT := Lib.hid hw
  have HNE := Lib.hid hne
  have HBE : Hid (∀ W, Below w.heap.size w W → Calls Tryz.prog 15 #[.slice a n c] W fun e w' => e = retB (begR evs) ∧ Below W.heap.size W w') := Lib.hid fun W hW => begin_any a n c evs W (hE.below hW) hn hsm
  have HAL2 : Hid (∀ W b d, Below w.heap.size w W → EvsAt W (some ⟨b, 0, none⟩) n evs → Calls Tryz.prog 16 #[.slice (some ⟨b, 0, none⟩) n d, .slice a n c] W fun e w' => e = .returned (.bool true) ∧ Below W.heap.size W w') := Lib.hid fun W b d hW hEb => all_any _ a n _ c evs W hEb (hE.below hW) hn (fun e he => (hsm e he).2.2.1)
  clear hE hw hR hT hsm hne
  go_enter Tryz.func5, Tryz.ntmps5
  go_wp2_with fail
  (with_reducible refine (HAW.out _ (Below.refl _ _)).mono ?_)
  rintro e w1 ⟨rfl, hb1⟩
  have HB1 := Lib.hid hb1
  clear hb1
  go_wp2_with fail
  (with_reducible refine (HCP.out _ HB1.out).mono ?_)
  rintro e w2 ⟨ge, rfl, hE2, hb2⟩
  have HBD2 := Lib.hid (HBD.out w2 ge (HB1.out.trans (hb2.mono HB1.out.size)) hE2)
  have HB2 := Lib.hid (HB1.out.trans (hb2.mono HB1.out.size))
  have HE2 := Lib.hid hE2
  clear hb2 hE2
  go_wp2_with fail
  (with_reducible refine HBD2.out.mono ?_)
  rintro e w3 ⟨hor, hb3⟩
  have HB3 := Lib.hid (HB2.out.trans (hb3.mono HB2.out.size))
  have HE3 := Lib.hid (HE2.out.below hb3)
  clear hb3
  rcases hor with ⟨hwh, tb, rfl, ht⟩ | ⟨hwh, rfl⟩
  rotate_left
  · obtain ⟨_, hbad⟩ := begR_whole evs
    have hbad2 := hbad hwh
    obtain ⟨x1, hx1⟩ : ∃ x, (begR evs).1 = x := ⟨_, rfl⟩
    obtain ⟨x2, hx2⟩ : ∃ x, (begR evs).2.1 = x := ⟨_, rfl⟩
    obtain ⟨x3, hx3⟩ : ∃ x, (begR evs).2.2 = x := ⟨_, rfl⟩
    have HBE3 := Lib.hid (HBE.out w3 HB3.out)
    unfold retB at HBE3
    rw [hx1, hx2, hx3] at HBE3
    rw [hx1, hx3] at hbad2
    clear hx1 hx2 hx3 hbad hwh
    go_wp2_with fail
    (with_reducible refine HBE3.out.mono ?_)
    rintro e w4 ⟨rfl, hb4⟩
    have HB4 := Lib.hid (HB3.out.trans (hb4.mono HB3.out.size))
    have HE4 := Lib.hid (HE3.out.below hb4)
    have HALK := Lib.hid (HAL2.out w4 ge n HB4.out HE4.out)
    clear hb4
    go_wp2_with fail
    (with_reducible refine HALK.out.mono ?_)
    rintro e w5 ⟨rfl, hb5⟩
    have HB5 := Lib.hid (HB4.out.trans (hb5.mono HB4.out.size))
    clear hb5
    have H3 : x1 = false ∨ (x1 = true ∧ x3 = false) := by
      cases x1
      · exact .inl rfl
      · rcases hbad2 with h | h
        · cases h
        · exact .inr ⟨rfl, h⟩
    clear hbad2
    rcases H3 with rfl | ⟨rfl, rfl⟩
    · go_wp2_with fail
      go_ret
      exact ⟨rfl, HB5.out⟩
    · go_wp2_with fail
      go_ret
      exact ⟨rfl, HB5.out⟩
  have htl := treeLast ht hwh
  have hrng := lastN_rng (wholeB_some hwh).choose_spec.1
  have HWH := Lib.hid hwh
  have HT := Lib.hid ht
  have HBE3 := Lib.hid (HBE.out w3 HB3.out)
  rw [(begR_whole evs).1 hwh] at HBE3
  unfold retB at HBE3
  have HRNG := Lib.hid hrng
  have HTL := Lib.hid htl
  clear ht hwh htl hrng
  go_wp2_with fail
  (with_reducible refine HBE3.out.mono ?_)
  rintro e w4 ⟨rfl, hb4⟩
  have HB4 := Lib.hid (HB3.out.trans (hb4.mono HB3.out.size))
  have HB34 := Lib.hid hb4
  have HALK := Lib.hid (HAL2.out w4 ge n HB4.out (HE3.out.below hb4))
  clear hb4
  go_wp2_with fail
  (with_reducible refine HALK.out.mono ?_)
  rintro e w5 ⟨rfl, hb5⟩
  have HB35 := Lib.hid (HB34.out.trans (hb5.mono HB34.out.size))
  have HB5 := Lib.hid (HB4.out.trans (hb5.mono HB4.out.size))
  have HNO := Lib.hid (nodes9_any a n c evs w5 (HE.out.below HB5.out) HWH.out hn HSM.out)
  clear hb5
  go_wp2_with fail
  (with_reducible refine HNO.out.mono ?_)
  rintro e w6 ⟨an, cn, rfl, hrn, hb6⟩
  have HB36 := Lib.hid (HB35.out.trans (hb6.mono HB35.out.size))
  have HB6 := Lib.hid (HB5.out.trans (hb6.mono HB5.out.size))
  have HRN := Lib.hid hrn
  clear hb6 hrn
  have hpos := wholeB_pos HWH.out
  have HB345 := Lib.hid HB36.out
  have HLEN : Hid (∀ W, Below w3.heap.size w3 W → Calls Tryz.prog 10 #[.pointer (some ⟨tb, 0, none⟩)] W fun e w' => e = .returned (.int .i64 ((nodesB evs).length : Nat)) ∧ w' = W) := Lib.hid fun W hW => len_any (HTL.out.keep fun k hk => hW.block k hk.2)
  have HEVS : Hid (∀ W, Below w3.heap.size w3 W → Calls Tryz.prog 18 #[.pointer (some ⟨tb, 0, none⟩)] W fun e w' => ∃ b, e = .returned (.slice (some ⟨b, 0, none⟩) n n) ∧ EvsAt w' (some ⟨b, 0, none⟩) n evs ∧ Below W.heap.size W w') := Lib.hid fun W hW =>
    (events_at tb evs W (HT.out.below hW) (fun e he => (HSM.out e he).2.2.1) (by rw [← HNE.out]; exact hn)).mono fun e w' ⟨cs, h1, h2, h3, h4⟩ => by
      rw [← HNE.out] at h1 h2 h3
      exact ⟨_, h1, evRow_at4 h2 HNE.out h3, h4⟩
  have HL6 := Lib.hid (HLEN.out w6 HB36.out)
  have HE6 := Lib.hid (HEVS.out w6 HB36.out)
  have hl0 : (0 : Int) < ((nodesB evs).length : Nat) := by omega
  go_wp2_with (first | (go_at_call 10; (with_reducible refine HL6.out.mono ?_); rintro e w' ⟨rfl, hw'⟩; subst w'))
  (with_reducible refine HE6.out.mono ?_)
  rintro e w7 ⟨b7, rfl, hE7, hb7⟩
  have HB7 := Lib.hid (HB6.out.trans (hb7.mono HB6.out.size))
  have HB67 := Lib.hid hb7
  have HAL7 := Lib.hid (HAL2.out w7 b7 n HB7.out hE7)
  clear hE7 hb7
  go_wp2_with fail
  (with_reducible refine HAL7.out.mono ?_)
  rintro e w8 ⟨rfl, hb8⟩
  have HB8 := Lib.hid (HB7.out.trans (hb8.mono HB7.out.size))
  have HB68 := Lib.hid (HB67.out.trans (hb8.mono HB67.out.size))
  clear hb8
  by_cases hL4 : (nodesB evs).length ≤ 400
  rotate_left
  · have hL : (400 : Int) < ((nodesB evs).length : Nat) := by omega
    go_wp2_with fail
    go_ret
    exact ⟨rfl, HB8.out⟩
  have hL : ((nodesB evs).length : Int) ≤ 400 := by omega
  have HAX := Lib.hid (axF_of HWH.out)
  have hinv : Hid (∀ (i : Nat) (x : Nd), (nodesB evs)[i]? = some x → x.pos < x.fin ∧ x.fin ≤ evs.length ∧ ∃ e, evs[x.pos]? = some e) := Lib.hid fun i x hx => by
    obtain ⟨t, ht, _⟩ := wholeB_some HWH.out
    have h1 := (nodesB_inv ht).rng i x hx
    obtain ⟨e, he, _⟩ := (nodesB_inv ht).here i x hx
    exact ⟨h1.1, h1.2, e, he⟩
  have hlat : Hid (∀ (i : Nat) (x : Nd), (nodesB evs)[i]? = some x → hiOf (nodesB evs).length (lastN evs) (i : Nat) = x.last.toNat + 1 ∧ ((lastN evs i : Nat) : Int) = x.last ∧ parN evs i = x.par) := Lib.hid fun i x hx => by
    obtain ⟨t, ht, _⟩ := wholeB_some HWH.out
    have h1 := lastN_at ht hx
    refine ⟨?_, h1, by unfold parN; rw [hx]; rfl⟩
    unfold hiOf
    rw [if_neg (by omega), Int.toNat_natCast]
    omega
  have HRN8 : Hid (∀ W, Below w8.heap.size w8 W → RNodes W an evs ∧ Below w3.heap.size w3 W ∧ Below w.heap.size w W) := Lib.hid fun W hW => by
    have h6 := HB68.out.trans (hW.mono HB68.out.size)
    exact ⟨HRN.out.below h6, HB36.out.trans (h6.mono HB36.out.size), HB8.out.trans (hW.mono HB8.out.size)⟩
  have hPC : ∀ e ∈ evs, ∀ W A m c, AttrsAt W A m e.ats → Calls Tryz.prog 49 #[.agg (evC e.kind e.num e.dep e.name A m c e.text e.fr e.tt)] W fun r w' => r = .returned (.string (strL (evOut e))) ∧ Below W.heap.size W w' := fun e he W A m c hA => by
    obtain ⟨i, hi, rfl⟩ := List.getElem_of_mem he
    have hwt := Nat.le_trans (wtEs_mem evs i hi) HWT.out
    have hsm := HSM.out _ he
    obtain ⟨t, ht, _⟩ := wholeB_some HWH.out
    obtain ⟨u, hu⟩ := begAll_take ht i
    have hok := (begAll_at ht i hi hu).1
    generalize evs[i] = ev at *
    have hk : ev.kind = 0 ∨ ev.kind = 1 ∨ ev.kind = 2 := by
      by_cases h0 : ev.kind = 0
      · exact .inl h0
      · by_cases h1 : ev.kind = 1
        · exact .inr (.inl h1)
        · by_cases h2 : ev.kind = 2
          · exact .inr (.inr h2)
          · rw [begOk3 u ev h0 h1 h2] at hok; cases hok
    have h8 := evOut_len ⟨0, ev.num, ev.dep, ev.name, ev.ats, ev.text, ev.fr, ev.tt⟩
    have h9 : (ev.ats.flatMap attrW).length ≤ (evOut ⟨0, ev.num, ev.dep, ev.name, ev.ats, ev.text, ev.fr, ev.tt⟩).length := by
      unfold evOut eventW
      rw [if_pos rfl]
      simp only [List.length_append]
      omega
    have h10 : wtE ⟨0, ev.num, ev.dep, ev.name, ev.ats, ev.text, ev.fr, ev.tt⟩ = wtE ev := rfl
    exact piece9_any _ _ _ _ _ _ _ A m c ev.ats W hA hk hsm.1 hsm.2.1 (by rw [hA.1]; exact hsm.2.2.1) hsm.2.2.2 (by omega)
  have hOL : ∀ e ∈ evs, (evOut e).length ≤ 134217728 := fun e he => by
    obtain ⟨i, hi, rfl⟩ := List.getElem_of_mem he
    have hwt := Nat.le_trans (wtEs_mem evs i hi) HWT.out
    have := evOut_len evs[i]
    omega
  have HPO := Lib.hid (⟨hPC, hOL⟩ : _ ∧ _)
  clear hPC hOL
  have HAL3 : Hid (∀ W, Below w8.heap.size w8 W → ∀ v x : Int, Calls Tryz.prog 13 #[.pointer (some ⟨tb, 0, none⟩), .int .i64 v, .int .i64 x] W fun e w' => ∃ A m c, e = .returned (.slice A m c) ∧ m = (alongM (nodesB evs).length (lastN evs) v x).length ∧ IntsAt w' A m (alongM (nodesB evs).length (lastN evs) v x) ∧ Below W.heap.size W w') := Lib.hid fun W hW v x =>
    (lawAlong_any tb _ _ v x W ((HTL.out.keep fun k hk => (HRN8.out W hW).2.1.block k hk.2).mono fun k hk => Nat.lt_of_lt_of_le hk.2 (HRN8.out W hW).2.1.size) (by omega) HRNG.out (by have := alongM_len (nodesB evs).length (lastN evs) v x; omega)).mono fun e w' ⟨r, h1, h2, h3⟩ => by
      obtain ⟨A, c, rfl, _, h5⟩ := own_ints h2
      exact ⟨A, _, c, h1, rfl, h5, h3⟩
  have HAL9 : Hid (∀ W, Below w8.heap.size w8 W → ∀ v x : Int, -1 ≤ x → x ≤ 4 → Calls Tryz.prog 25 #[.slice an (nodesB evs).length cn, .int .i64 v, .int .i64 x] W fun e w' => ∃ A c, e = .returned (.slice A (alongM (nodesB evs).length (lastN evs) v x).length c) ∧ IntsAt w' A (alongM (nodesB evs).length (lastN evs) v x).length (alongM (nodesB evs).length (lastN evs) v x) ∧ Below W.heap.size W w') := Lib.hid fun W hW v x hx1 hx2 => by
    rw [← alongR_eq HAX.out]
    refine along9_any an cn _ v x _ _ W hL4 hpos HRNG.out (fun i hi => ?_) hx1 hx2
    obtain ⟨b, e, A, m, c, h1, h2, _, _, _, h6, h7, _⟩ := (HRN8.out W hW).1 i _ (List.getElem?_eq_getElem hi)
    obtain ⟨_, h8, h9⟩ := hlat.out i _ (List.getElem?_eq_getElem hi)
    exact ⟨b, h1, h2, by rw [h6, h9], by rw [h7, h8]⟩
  go_wp2_with fail
  go_loopw [10] (fun nv wr => ∃ v : Int, nv = .int .i64 v ∧ -2 ≤ v ∧ v ≤ ((nodesB evs).length : Int) + 1 ∧ Hid (Below w8.heap.size w8 wr)) (fun nv _ => (((nodesB evs).length : Int) + 1 - intOf nv).toNat)
  case atStart => exact ⟨-2, rfl, by omega, by omega, Lib.hid (Below.refl _ _)⟩
  case round =>
    obtain ⟨v, rfl, hv1, hv2, HR⟩ := hrel
    have h3 := (HRN8.out wr HR.out).2.1
    have hw := (HRN8.out wr HR.out).2.2
    by_cases hvL : v ≤ ((nodesB evs).length : Int)
    · have ew : IntKind.i64.wrap (v + 1) = v + 1 := IntWalk.i64_in _ (by omega)
      by_cases hA : v < -1
      · have HN1 := Lib.hid (node_out tb v wr (HTL.out.keep fun k hk => h3.block k hk.2) (fun k hk => Nat.lt_of_lt_of_le hk.2 h3.size) (.inl (by omega)))
        have HPA : Hid (∀ W, Below wr.heap.size wr W → Calls Tryz.prog 14 #[.pointer (some ⟨tb, 0, none⟩), .int .i64 v] W fun e w' => e = .returned (.tuple #[.int .i64 0, .int .i64 2]) ∧ w' = W) := Lib.hid fun W hW => parent_out tb v W (HTL.out.keep fun k hk => ((h3.trans (hW.mono h3.size)).block k hk.2)) (.inl (by omega))
        have HVA : Hid (∀ W, Below wr.heap.size wr W → Calls Tryz.prog 21 #[.pointer (some ⟨tb, 0, none⟩), .int .i64 v] W fun e w' => e = .returned (.tuple #[.string ⟨#[]⟩, .int .i64 2]) ∧ w' = W) := Lib.hid fun W hW => value_out tb v W (HTL.out.keep fun k hk => ((h3.trans (hW.mono h3.size)).block k hk.2)) (.inl (by omega))
        have HPR : Hid (∀ W, Below wr.heap.size wr W → Calls Tryz.prog 22 #[.pointer (some ⟨tb, 0, none⟩), .int .i64 v] W fun e w' => e = .returned (.tuple #[.string ⟨#[]⟩, .int .i64 2]) ∧ w' = W) := Lib.hid fun W hW => tprint_out tb v W (HTL.out.keep fun k hk => ((h3.trans (hW.mono h3.size)).block k hk.2)) (.inl (by omega))
        have HW3 := Lib.hid (⟨h3, hw⟩ : _ ∧ _)
        clear h3 hw
        go_wp2_with fail
        (with_reducible refine HN1.out.mono ?_)
        rintro e wa ⟨rfl, hba⟩
        unfold evC
        have HBA := Lib.hid hba
        clear hba
        have HPA2 := Lib.hid (HPA.out _ (HBA.out.alloc HBA.out.size (.cells #[.int .i64 0, .int .i64 0, .int .i64 0, .string (strL []), .slice none 0 0, .string (strL []), .int .i64 0, .int .i64 0] 50)))
        have hbx : (wa.alloc (.cells #[.int .i64 0, .int .i64 0, .int .i64 0, .string (strL []), .slice none 0 0, .string (strL []), .int .i64 0, .int .i64 0] 50)).heap[wa.heap.size]? = some (.cells #[.int .i64 0, .int .i64 0, .int .i64 0, .string (strL []), .slice none 0 0, .string (strL []), .int .i64 0, .int .i64 0] 50 (0, 0)) := heap_alloc_new wa _
        have hbw : Below wr.heap.size wr (wa.alloc (.cells #[.int .i64 0, .int .i64 0, .int .i64 0, .string (strL []), .slice none 0 0, .string (strL []), .int .i64 0, .int .i64 0] 50)) := HBA.out.alloc HBA.out.size _
        have hbs : wa.heap.size < (wa.alloc (.cells #[.int .i64 0, .int .i64 0, .int .i64 0, .string (strL []), .slice none 0 0, .string (strL []), .int .i64 0, .int .i64 0] 50)).heap.size := by simp
        have hb0 : Below wa.heap.size wa (wa.alloc (.cells #[.int .i64 0, .int .i64 0, .int .i64 0, .string (strL []), .slice none 0 0, .string (strL []), .int .i64 0, .int .i64 0] 50)) := (Below.refl _ _).alloc (Nat.le_refl _) _
        go_wp2_with fail
        generalize wa.alloc (.cells #[.int .i64 0, .int .i64 0, .int .i64 0, .string (strL []), .slice none 0 0, .string (strL []), .int .i64 0, .int .i64 0] 50) = wb at *
        have HBX := Lib.hid (⟨hbx, hbw, hbs, hb0⟩ : _ ∧ _ ∧ _ ∧ _)
        clear hbx hbw hbs hb0
        have HS : Hid (∀ W, Below wb.heap.size wb W → W.cell? ⟨wa.heap.size, 0, none⟩ = some (.int .i64 0) ∧ W.cell? ⟨wa.heap.size, 1, none⟩ = some (.int .i64 0) ∧ W.cell? ⟨wa.heap.size, 2, none⟩ = some (.int .i64 0) ∧ W.cell? ⟨wa.heap.size, 3, none⟩ = some (.string (strL [])) ∧ W.cell? ⟨wa.heap.size, 4, none⟩ = some (.slice none 0 0) ∧ W.cell? ⟨wa.heap.size, 5, none⟩ = some (.string (strL [])) ∧ W.cell? ⟨wa.heap.size, 6, none⟩ = some (.int .i64 0) ∧ W.cell? ⟨wa.heap.size, 7, none⟩ = some (.int .i64 0) ∧ Below wb.heap.size wb W) := Lib.hid fun W hW => by
          have hc := (hW.block _ HBX.out.2.2.1).trans HBX.out.1
          have hl := HBX.out.2.1.trans (hW.mono HBX.out.2.1.size)
          exact ⟨by rw [cell_heap hc]; rfl, by rw [cell_heap hc]; rfl, by rw [cell_heap hc]; rfl, by rw [cell_heap hc]; rfl, by rw [cell_heap hc]; rfl, by rw [cell_heap hc]; rfl, by rw [cell_heap hc]; rfl, by rw [cell_heap hc]; rfl, hW⟩
        have HSAM : Hid (∀ W, Below wb.heap.size wb W → Calls Tryz.prog 20 #[.agg #[.int .i64 0, .int .i64 0, .int .i64 0, .string (strL []), .slice none 0 0, .string (strL []), .int .i64 0, .int .i64 0], .agg #[.int .i64 0, .int .i64 0, .int .i64 0, .string ⟨#[]⟩, .slice none 0 0, .string ⟨#[]⟩, .int .i64 0, .int .i64 0]] W fun e w' => e = .returned (.bool true) ∧ Below wb.heap.size wb w') := Lib.hid fun W hW =>
          (same_any ⟨0, 0, 0, [], [], [], 0, 0⟩ none none 0 0 0 0 W ⟨rfl, fun i hi => by simp at hi⟩ ⟨rfl, fun i hi => by simp at hi⟩ (by omega)).mono fun e w' ⟨h1, h2⟩ => ⟨h1, hW.trans (h2.mono hW.size)⟩
        obtain ⟨z0, z1, z2, z3, z4, z5, z6, z7, _⟩ := HS.out wb (Below.refl _ _)
        (with_reducible refine HPA2.out.mono ?_)
        rintro e w' ⟨rfl, hw'⟩
        subst w'
        go_wp2_with fail
        clear z0 z1 z2 z3 z4 z5 z6 z7
        (with_reducible refine (HSAM.out _ (Below.refl _ _)).mono ?_)
        rintro e wc ⟨rfl, hbc⟩
        have HC1 : Hid (Below wr.heap.size wr wc) := Lib.hid (HBX.out.2.1.trans (hbc.mono HBX.out.2.1.size))
        clear hbc
        have HVK := Lib.hid (HVA.out wc HC1.out)
        have HPK := Lib.hid (HPR.out wc HC1.out)
        go_wp2_with fail
        (with_reducible refine HVK.out.mono ?_)
        rintro e w' ⟨rfl, hw'⟩
        subst w'
        go_wp2_with fail
        (with_reducible refine HPK.out.mono ?_)
        rintro e w' ⟨rfl, hw'⟩
        subst w'
        have HG1 := HC1
        have HG8 := Lib.hid (HR.out.trans (HG1.out.mono HR.out.size))
        go_wp2_with fail
        go_loopw [17] (fun xv W => ∃ ax : Int, xv = .int .i64 ax ∧ -1 ≤ ax ∧ ax ≤ 5 ∧ Hid (Below w8.heap.size w8 W)) (fun xv _ => (5 - intOf xv).toNat)
        case atStart => exact ⟨-1, rfl, by omega, by omega, HG8⟩
        case round =>
          obtain ⟨ax, rfl, hax1, hax2, HQ⟩ := hrel
          by_cases hax : ax < 5
          · have ewx : IntKind.i64.wrap (ax + 1) = ax + 1 := IntWalk.i64_in _ (by omega)
            have HX1 := Lib.hid (HAL3.out wr HQ.out v ax)
            go_wp2_with fail
            (with_reducible refine HX1.out.mono ?_)
            rintro e wh ⟨Ah, mh, ch, rfl, hmh, hIh, hbh⟩
            have HH := Lib.hid (HQ.out.trans (hbh.mono HQ.out.size))
            have HX9 := Lib.hid (HAL9.out wh HH.out v ax hax1 (by omega))
            have HIH := Lib.hid (⟨hIh, hmh⟩ : _ ∧ _)
            clear hIh hmh hbh
            go_wp2_with fail
            (with_reducible refine HX9.out.mono ?_)
            rintro e wi ⟨Ai, ci, rfl, hIi, hbi⟩
            have HI := Lib.hid (HH.out.trans (hbi.mono HH.out.size))
            have HIN : Hid (Calls Tryz.prog 12 #[.slice Ah mh ch, .slice Ai (alongM (nodesB evs).length (lastN evs) v ax).length ci] wi fun e w' => e = .returned (.bool true) ∧ Below wi.heap.size wi w') := Lib.hid (by
              refine (lawInts_any Ah Ai mh _ ch ci _ _ wi (HIH.out.1.below hbi) hIi (by have := alongM_len (nodesB evs).length (lastN evs) v ax; have := HIH.out.2; omega)).mono ?_
              rintro e w' ⟨rfl, hb⟩
              exact ⟨by simp, hb⟩)
            clear hIi hbi
            go_wp2_with fail
            (with_reducible refine HIN.out.mono ?_)
            rintro e wj ⟨rfl, hbj⟩
            have HJ := Lib.hid (HI.out.trans (hbj.mono HI.out.size))
            clear hbj
            go_wp2_with fail
            go_roundw
            case rel => exact ⟨ax + 1, rfl, by omega, by omega, HJ⟩
            case measure => simp [intOf]; omega
          · have hax5 : ax = 5 := by omega
            subst hax5
            go_wp2_with fail
            go_roundw
            case rel => exact ⟨v + 1, by first | rfl | go_num, by omega, by omega, HQ⟩
            case measure => first | (simp [intOf]; done) | (simp [intOf]; omega)
      · by_cases hB : v = -1
        · subst hB
          have HN1 := Lib.hid (node_out tb (-1) wr (HTL.out.keep fun k hk => h3.block k hk.2) (fun k hk => Nat.lt_of_lt_of_le hk.2 h3.size) (.inl (by omega)))
          have HPA : Hid (∀ W, Below wr.heap.size wr W → Calls Tryz.prog 14 #[.pointer (some ⟨tb, 0, none⟩), .int .i64 (-1)] W fun e w' => e = .returned (.tuple #[.int .i64 0, .int .i64 2]) ∧ w' = W) := Lib.hid fun W hW => parent_out tb (-1) W (HTL.out.keep fun k hk => ((h3.trans (hW.mono h3.size)).block k hk.2)) (.inl (by omega))
          obtain ⟨x, hx⟩ : ∃ x, (nodesB evs)[0]? = some x := ⟨_, List.getElem?_eq_getElem (by omega)⟩
          obtain ⟨hp1, hp2, e0, he0⟩ := hinv.out 0 x hx
          obtain ⟨hh1, hh2, hh3⟩ := hlat.out 0 x hx
          obtain ⟨tv, htv⟩ : ∃ tv, strL (txtR evs 0 (x.last.toNat + 1)) = tv := ⟨_, rfl⟩
          obtain ⟨fv, hfv⟩ : ∃ fv, strL (((evs.take x.fin).drop x.pos).flatMap evOut) = fv := ⟨_, rfl⟩
          have HVA : Hid (∀ W, Below wr.heap.size wr W → Calls Tryz.prog 21 #[.pointer (some ⟨tb, 0, none⟩), .int .i64 (-1)] W fun e w' => e = .returned (.tuple #[.string tv, .int .i64 0]) ∧ Below W.heap.size W w') := Lib.hid fun W hW => by
            have := value_at tb 0 (-1) evs W (HT.out.below (h3.trans (hW.mono h3.size))) HWH.out (.inr ⟨rfl, rfl⟩) (by omega) (fun e he => (HSM.out e he).2.1) (by omega)
            rw [show hiOf (nodesB evs).length (lastN evs) (-1) = x.last.toNat + 1 from by unfold hiOf; rw [if_pos (by omega), ← last_root HWH.out]; first | done | omega, htv] at this
            exact this
          have HPR : Hid (∀ W, Below wr.heap.size wr W → Calls Tryz.prog 22 #[.pointer (some ⟨tb, 0, none⟩), .int .i64 (-1)] W fun e w' => e = .returned (.tuple #[.string fv, .int .i64 0]) ∧ Below W.heap.size W w') := Lib.hid fun W hW => by
            have := tprint_top tb x evs W (HT.out.below (h3.trans (hW.mono h3.size))) hx HWH.out HWT.out hp1 hp2
            rw [hfv] at this
            exact this
          have HV9 : Hid (∀ W, Below wr.heap.size wr W → Calls Tryz.prog 23 #[.slice an (nodesB evs).length cn, .int .i64 (-1)] W fun e w' => e = .returned (.string tv) ∧ Below wr.heap.size wr w') := Lib.hid fun W hW => by
            have := value9_any an cn 0 (-1) x evs W ((HRN8.out wr HR.out).1.below hW) hx (.inr ⟨rfl, rfl⟩)
            rw [htv] at this
            exact this.mono fun e w' ⟨h1, h2⟩ => ⟨h1, h2 ▸ hW⟩
          have HF9 : Hid (∀ W, Below wr.heap.size wr W → Calls Tryz.prog 24 #[.slice a n c, .slice an (nodesB evs).length cn, .int .i64 (-1)] W fun e w' => e = .returned (.string fv) ∧ Below wr.heap.size wr w') := Lib.hid fun W hW => by
            have := form9_any a an n c cn 0 (-1) x evs W (HE.out.below (hw.trans (hW.mono hw.size))) hn ((HRN8.out wr HR.out).1.below hW) hx (.inr ⟨rfl, rfl⟩) hp1 hp2 HPO.out.1 HPO.out.2
            rw [hfv] at this
            exact this.mono fun e w' ⟨h1, h2⟩ => ⟨h1, hW.trans (h2.mono hW.size)⟩
          have hne9 : ((-1 : Int) == ((nodesB evs).length : Nat)) = false := by first | (simp; done) | (simp; omega)
          clear hx he0 hh1 hh2 hh3 hp1 hp2 htv hfv
          have HW3 := Lib.hid (⟨h3, hw⟩ : _ ∧ _)
          clear h3 hw
          go_wp2_with fail
          (with_reducible refine HN1.out.mono ?_)
          rintro e wa ⟨rfl, hba⟩
          unfold evC
          have HBA := Lib.hid hba
          clear hba
          have HPA2 := Lib.hid (HPA.out _ (HBA.out.alloc HBA.out.size (.cells #[.int .i64 0, .int .i64 0, .int .i64 0, .string (strL []), .slice none 0 0, .string (strL []), .int .i64 0, .int .i64 0] 50)))
          have hbx : (wa.alloc (.cells #[.int .i64 0, .int .i64 0, .int .i64 0, .string (strL []), .slice none 0 0, .string (strL []), .int .i64 0, .int .i64 0] 50)).heap[wa.heap.size]? = some (.cells #[.int .i64 0, .int .i64 0, .int .i64 0, .string (strL []), .slice none 0 0, .string (strL []), .int .i64 0, .int .i64 0] 50 (0, 0)) := heap_alloc_new wa _
          have hbw : Below wr.heap.size wr (wa.alloc (.cells #[.int .i64 0, .int .i64 0, .int .i64 0, .string (strL []), .slice none 0 0, .string (strL []), .int .i64 0, .int .i64 0] 50)) := HBA.out.alloc HBA.out.size _
          have hbs : wa.heap.size < (wa.alloc (.cells #[.int .i64 0, .int .i64 0, .int .i64 0, .string (strL []), .slice none 0 0, .string (strL []), .int .i64 0, .int .i64 0] 50)).heap.size := by simp
          have hb0 : Below wa.heap.size wa (wa.alloc (.cells #[.int .i64 0, .int .i64 0, .int .i64 0, .string (strL []), .slice none 0 0, .string (strL []), .int .i64 0, .int .i64 0] 50)) := (Below.refl _ _).alloc (Nat.le_refl _) _
          go_wp2_with fail
          generalize wa.alloc (.cells #[.int .i64 0, .int .i64 0, .int .i64 0, .string (strL []), .slice none 0 0, .string (strL []), .int .i64 0, .int .i64 0] 50) = wb at *
          have HBX := Lib.hid (⟨hbx, hbw, hbs, hb0⟩ : _ ∧ _ ∧ _ ∧ _)
          clear hbx hbw hbs hb0
          have HS : Hid (∀ W, Below wb.heap.size wb W → W.cell? ⟨wa.heap.size, 0, none⟩ = some (.int .i64 0) ∧ W.cell? ⟨wa.heap.size, 1, none⟩ = some (.int .i64 0) ∧ W.cell? ⟨wa.heap.size, 2, none⟩ = some (.int .i64 0) ∧ W.cell? ⟨wa.heap.size, 3, none⟩ = some (.string (strL [])) ∧ W.cell? ⟨wa.heap.size, 4, none⟩ = some (.slice none 0 0) ∧ W.cell? ⟨wa.heap.size, 5, none⟩ = some (.string (strL [])) ∧ W.cell? ⟨wa.heap.size, 6, none⟩ = some (.int .i64 0) ∧ W.cell? ⟨wa.heap.size, 7, none⟩ = some (.int .i64 0) ∧ Below wb.heap.size wb W) := Lib.hid fun W hW => by
            have hc := (hW.block _ HBX.out.2.2.1).trans HBX.out.1
            have hl := HBX.out.2.1.trans (hW.mono HBX.out.2.1.size)
            exact ⟨by rw [cell_heap hc]; rfl, by rw [cell_heap hc]; rfl, by rw [cell_heap hc]; rfl, by rw [cell_heap hc]; rfl, by rw [cell_heap hc]; rfl, by rw [cell_heap hc]; rfl, by rw [cell_heap hc]; rfl, by rw [cell_heap hc]; rfl, hW⟩
          have HSAM : Hid (∀ W, Below wb.heap.size wb W → Calls Tryz.prog 20 #[.agg #[.int .i64 0, .int .i64 0, .int .i64 0, .string (strL []), .slice none 0 0, .string (strL []), .int .i64 0, .int .i64 0], .agg #[.int .i64 0, .int .i64 0, .int .i64 0, .string ⟨#[]⟩, .slice none 0 0, .string ⟨#[]⟩, .int .i64 0, .int .i64 0]] W fun e w' => e = .returned (.bool true) ∧ Below wb.heap.size wb w') := Lib.hid fun W hW =>
            (same_any ⟨0, 0, 0, [], [], [], 0, 0⟩ none none 0 0 0 0 W ⟨rfl, fun i hi => by simp at hi⟩ ⟨rfl, fun i hi => by simp at hi⟩ (by omega)).mono fun e w' ⟨h1, h2⟩ => ⟨h1, hW.trans (h2.mono hW.size)⟩
          obtain ⟨z0, z1, z2, z3, z4, z5, z6, z7, _⟩ := HS.out wb (Below.refl _ _)
          (with_reducible refine HPA2.out.mono ?_)
          rintro e w' ⟨rfl, hw'⟩
          subst w'
          go_wp2_with fail
          clear z0 z1 z2 z3 z4 z5 z6 z7
          (with_reducible refine (HSAM.out _ (Below.refl _ _)).mono ?_)
          rintro e wc ⟨rfl, hbc⟩
          have HC1 : Hid (Below wr.heap.size wr wc) := Lib.hid (HBX.out.2.1.trans (hbc.mono HBX.out.2.1.size))
          clear hbc
          have HVK := Lib.hid (HVA.out wc HC1.out)
          go_wp2_with fail
          (with_reducible refine HVK.out.mono ?_)
          rintro e wd ⟨rfl, hbd⟩
          have HD1 := Lib.hid (HC1.out.trans (hbd.mono HC1.out.size))
          have HPK := Lib.hid (HPR.out wd HD1.out)
          clear hbd
          go_wp2_with fail
          (with_reducible refine HPK.out.mono ?_)
          rintro e we ⟨rfl, hbe⟩
          have hE1 := HD1.out.trans (hbe.mono HD1.out.size)
          have HE1 := Lib.hid hE1
          have hE1d := hE1.drew
          clear hbe
          go_wp2_with fail
          (with_reducible refine (HV9.out _ HE1.out).mono ?_)
          rintro e wf ⟨rfl, hbf⟩
          have HFK := Lib.hid (HF9.out wf hbf)
          go_wp2_with fail
          (with_reducible refine HFK.out.mono ?_)
          rintro e wg ⟨rfl, hbg⟩
          have HG1 := Lib.hid hbg
          clear hbg hbf hE1 hE1d
          have HG8 := Lib.hid (HR.out.trans (HG1.out.mono HR.out.size))
          go_wp2_with fail
          go_loopw [17] (fun xv W => ∃ ax : Int, xv = .int .i64 ax ∧ -1 ≤ ax ∧ ax ≤ 5 ∧ Hid (Below w8.heap.size w8 W)) (fun xv _ => (5 - intOf xv).toNat)
          case atStart => exact ⟨-1, rfl, by omega, by omega, HG8⟩
          case round =>
            obtain ⟨ax, rfl, hax1, hax2, HQ⟩ := hrel
            by_cases hax : ax < 5
            · have ewx : IntKind.i64.wrap (ax + 1) = ax + 1 := IntWalk.i64_in _ (by omega)
              have HX1 := Lib.hid (HAL3.out wr HQ.out (-1) ax)
              go_wp2_with fail
              (with_reducible refine HX1.out.mono ?_)
              rintro e wh ⟨Ah, mh, ch, rfl, hmh, hIh, hbh⟩
              have HH := Lib.hid (HQ.out.trans (hbh.mono HQ.out.size))
              have HX9 := Lib.hid (HAL9.out wh HH.out (-1) ax hax1 (by omega))
              have HIH := Lib.hid (⟨hIh, hmh⟩ : _ ∧ _)
              clear hIh hmh hbh
              go_wp2_with fail
              (with_reducible refine HX9.out.mono ?_)
              rintro e wi ⟨Ai, ci, rfl, hIi, hbi⟩
              have HI := Lib.hid (HH.out.trans (hbi.mono HH.out.size))
              have HIN : Hid (Calls Tryz.prog 12 #[.slice Ah mh ch, .slice Ai (alongM (nodesB evs).length (lastN evs) (-1) ax).length ci] wi fun e w' => e = .returned (.bool true) ∧ Below wi.heap.size wi w') := Lib.hid (by
                refine (lawInts_any Ah Ai mh _ ch ci _ _ wi (HIH.out.1.below hbi) hIi (by have := alongM_len (nodesB evs).length (lastN evs) (-1) ax; have := HIH.out.2; omega)).mono ?_
                rintro e w' ⟨rfl, hb⟩
                exact ⟨by simp, hb⟩)
              clear hIi hbi
              go_wp2_with fail
              (with_reducible refine HIN.out.mono ?_)
              rintro e wj ⟨rfl, hbj⟩
              have HJ := Lib.hid (HI.out.trans (hbj.mono HI.out.size))
              clear hbj
              go_wp2_with fail
              go_roundw
              case rel => exact ⟨ax + 1, rfl, by omega, by omega, HJ⟩
              case measure => simp [intOf]; omega
            · have hax5 : ax = 5 := by omega
              subst hax5
              go_wp2_with fail
              go_roundw
              case rel => exact ⟨(-1) + 1, by first | rfl | go_num, by omega, by omega, HQ⟩
              case measure => first | (simp [intOf]; done) | (simp [intOf]; omega)
        · by_cases hD : v = ((nodesB evs).length : Int)
          · subst hD
            have HN1 := Lib.hid (node_out tb (((nodesB evs).length : Nat) : Int) wr (HTL.out.keep fun k hk => h3.block k hk.2) (fun k hk => Nat.lt_of_lt_of_le hk.2 h3.size) (.inr (by omega)))
            have HPA : Hid (∀ W, Below wr.heap.size wr W → Calls Tryz.prog 14 #[.pointer (some ⟨tb, 0, none⟩), .int .i64 (((nodesB evs).length : Nat) : Int)] W fun e w' => e = .returned (.tuple #[.int .i64 0, .int .i64 2]) ∧ w' = W) := Lib.hid fun W hW => parent_out tb (((nodesB evs).length : Nat) : Int) W (HTL.out.keep fun k hk => ((h3.trans (hW.mono h3.size)).block k hk.2)) (.inr (by omega))
            have HVA : Hid (∀ W, Below wr.heap.size wr W → Calls Tryz.prog 21 #[.pointer (some ⟨tb, 0, none⟩), .int .i64 (((nodesB evs).length : Nat) : Int)] W fun e w' => e = .returned (.tuple #[.string ⟨#[]⟩, .int .i64 2]) ∧ w' = W) := Lib.hid fun W hW => value_out tb (((nodesB evs).length : Nat) : Int) W (HTL.out.keep fun k hk => ((h3.trans (hW.mono h3.size)).block k hk.2)) (.inr (by omega))
            have HPR : Hid (∀ W, Below wr.heap.size wr W → Calls Tryz.prog 22 #[.pointer (some ⟨tb, 0, none⟩), .int .i64 (((nodesB evs).length : Nat) : Int)] W fun e w' => e = .returned (.tuple #[.string ⟨#[]⟩, .int .i64 2]) ∧ w' = W) := Lib.hid fun W hW => tprint_out tb (((nodesB evs).length : Nat) : Int) W (HTL.out.keep fun k hk => ((h3.trans (hW.mono h3.size)).block k hk.2)) (.inr (by omega))
            have HW3 := Lib.hid (⟨h3, hw⟩ : _ ∧ _)
            clear h3 hw
            go_wp2_with fail
            (with_reducible refine HN1.out.mono ?_)
            rintro e wa ⟨rfl, hba⟩
            unfold evC
            have HBA := Lib.hid hba
            clear hba
            have HPA2 := Lib.hid (HPA.out _ (HBA.out.alloc HBA.out.size (.cells #[.int .i64 0, .int .i64 0, .int .i64 0, .string (strL []), .slice none 0 0, .string (strL []), .int .i64 0, .int .i64 0] 50)))
            have hbx : (wa.alloc (.cells #[.int .i64 0, .int .i64 0, .int .i64 0, .string (strL []), .slice none 0 0, .string (strL []), .int .i64 0, .int .i64 0] 50)).heap[wa.heap.size]? = some (.cells #[.int .i64 0, .int .i64 0, .int .i64 0, .string (strL []), .slice none 0 0, .string (strL []), .int .i64 0, .int .i64 0] 50 (0, 0)) := heap_alloc_new wa _
            have hbw : Below wr.heap.size wr (wa.alloc (.cells #[.int .i64 0, .int .i64 0, .int .i64 0, .string (strL []), .slice none 0 0, .string (strL []), .int .i64 0, .int .i64 0] 50)) := HBA.out.alloc HBA.out.size _
            have hbs : wa.heap.size < (wa.alloc (.cells #[.int .i64 0, .int .i64 0, .int .i64 0, .string (strL []), .slice none 0 0, .string (strL []), .int .i64 0, .int .i64 0] 50)).heap.size := by simp
            have hb0 : Below wa.heap.size wa (wa.alloc (.cells #[.int .i64 0, .int .i64 0, .int .i64 0, .string (strL []), .slice none 0 0, .string (strL []), .int .i64 0, .int .i64 0] 50)) := (Below.refl _ _).alloc (Nat.le_refl _) _
            go_wp2_with fail
            generalize wa.alloc (.cells #[.int .i64 0, .int .i64 0, .int .i64 0, .string (strL []), .slice none 0 0, .string (strL []), .int .i64 0, .int .i64 0] 50) = wb at *
            have HBX := Lib.hid (⟨hbx, hbw, hbs, hb0⟩ : _ ∧ _ ∧ _ ∧ _)
            clear hbx hbw hbs hb0
            have HS : Hid (∀ W, Below wb.heap.size wb W → W.cell? ⟨wa.heap.size, 0, none⟩ = some (.int .i64 0) ∧ W.cell? ⟨wa.heap.size, 1, none⟩ = some (.int .i64 0) ∧ W.cell? ⟨wa.heap.size, 2, none⟩ = some (.int .i64 0) ∧ W.cell? ⟨wa.heap.size, 3, none⟩ = some (.string (strL [])) ∧ W.cell? ⟨wa.heap.size, 4, none⟩ = some (.slice none 0 0) ∧ W.cell? ⟨wa.heap.size, 5, none⟩ = some (.string (strL [])) ∧ W.cell? ⟨wa.heap.size, 6, none⟩ = some (.int .i64 0) ∧ W.cell? ⟨wa.heap.size, 7, none⟩ = some (.int .i64 0) ∧ Below wb.heap.size wb W) := Lib.hid fun W hW => by
              have hc := (hW.block _ HBX.out.2.2.1).trans HBX.out.1
              have hl := HBX.out.2.1.trans (hW.mono HBX.out.2.1.size)
              exact ⟨by rw [cell_heap hc]; rfl, by rw [cell_heap hc]; rfl, by rw [cell_heap hc]; rfl, by rw [cell_heap hc]; rfl, by rw [cell_heap hc]; rfl, by rw [cell_heap hc]; rfl, by rw [cell_heap hc]; rfl, by rw [cell_heap hc]; rfl, hW⟩
            have HSAM : Hid (∀ W, Below wb.heap.size wb W → Calls Tryz.prog 20 #[.agg #[.int .i64 0, .int .i64 0, .int .i64 0, .string (strL []), .slice none 0 0, .string (strL []), .int .i64 0, .int .i64 0], .agg #[.int .i64 0, .int .i64 0, .int .i64 0, .string ⟨#[]⟩, .slice none 0 0, .string ⟨#[]⟩, .int .i64 0, .int .i64 0]] W fun e w' => e = .returned (.bool true) ∧ Below wb.heap.size wb w') := Lib.hid fun W hW =>
              (same_any ⟨0, 0, 0, [], [], [], 0, 0⟩ none none 0 0 0 0 W ⟨rfl, fun i hi => by simp at hi⟩ ⟨rfl, fun i hi => by simp at hi⟩ (by omega)).mono fun e w' ⟨h1, h2⟩ => ⟨h1, hW.trans (h2.mono hW.size)⟩
            obtain ⟨z0, z1, z2, z3, z4, z5, z6, z7, _⟩ := HS.out wb (Below.refl _ _)
            (with_reducible refine HPA2.out.mono ?_)
            rintro e w' ⟨rfl, hw'⟩
            subst w'
            go_wp2_with fail
            clear z0 z1 z2 z3 z4 z5 z6 z7
            (with_reducible refine (HSAM.out _ (Below.refl _ _)).mono ?_)
            rintro e wc ⟨rfl, hbc⟩
            have HC1 : Hid (Below wr.heap.size wr wc) := Lib.hid (HBX.out.2.1.trans (hbc.mono HBX.out.2.1.size))
            clear hbc
            have HVK := Lib.hid (HVA.out wc HC1.out)
            have HPK := Lib.hid (HPR.out wc HC1.out)
            go_wp2_with fail
            (with_reducible refine HVK.out.mono ?_)
            rintro e w' ⟨rfl, hw'⟩
            subst w'
            go_wp2_with fail
            (with_reducible refine HPK.out.mono ?_)
            rintro e w' ⟨rfl, hw'⟩
            subst w'
            have HG1 := HC1
            have HG8 := Lib.hid (HR.out.trans (HG1.out.mono HR.out.size))
            go_wp2_with fail
            go_loopw [17] (fun xv W => ∃ ax : Int, xv = .int .i64 ax ∧ -1 ≤ ax ∧ ax ≤ 5 ∧ Hid (Below w8.heap.size w8 W)) (fun xv _ => (5 - intOf xv).toNat)
            case atStart => exact ⟨-1, rfl, by omega, by omega, HG8⟩
            case round =>
              obtain ⟨ax, rfl, hax1, hax2, HQ⟩ := hrel
              by_cases hax : ax < 5
              · have ewx : IntKind.i64.wrap (ax + 1) = ax + 1 := IntWalk.i64_in _ (by omega)
                have HX1 := Lib.hid (HAL3.out wr HQ.out (((nodesB evs).length : Nat) : Int) ax)
                go_wp2_with fail
                (with_reducible refine HX1.out.mono ?_)
                rintro e wh ⟨Ah, mh, ch, rfl, hmh, hIh, hbh⟩
                have HH := Lib.hid (HQ.out.trans (hbh.mono HQ.out.size))
                have HX9 := Lib.hid (HAL9.out wh HH.out (((nodesB evs).length : Nat) : Int) ax hax1 (by omega))
                have HIH := Lib.hid (⟨hIh, hmh⟩ : _ ∧ _)
                clear hIh hmh hbh
                go_wp2_with fail
                (with_reducible refine HX9.out.mono ?_)
                rintro e wi ⟨Ai, ci, rfl, hIi, hbi⟩
                have HI := Lib.hid (HH.out.trans (hbi.mono HH.out.size))
                have HIN : Hid (Calls Tryz.prog 12 #[.slice Ah mh ch, .slice Ai (alongM (nodesB evs).length (lastN evs) (((nodesB evs).length : Nat) : Int) ax).length ci] wi fun e w' => e = .returned (.bool true) ∧ Below wi.heap.size wi w') := Lib.hid (by
                  refine (lawInts_any Ah Ai mh _ ch ci _ _ wi (HIH.out.1.below hbi) hIi (by have := alongM_len (nodesB evs).length (lastN evs) (((nodesB evs).length : Nat) : Int) ax; have := HIH.out.2; omega)).mono ?_
                  rintro e w' ⟨rfl, hb⟩
                  exact ⟨by simp, hb⟩)
                clear hIi hbi
                go_wp2_with fail
                (with_reducible refine HIN.out.mono ?_)
                rintro e wj ⟨rfl, hbj⟩
                have HJ := Lib.hid (HI.out.trans (hbj.mono HI.out.size))
                clear hbj
                go_wp2_with fail
                go_roundw
                case rel => exact ⟨ax + 1, rfl, by omega, by omega, HJ⟩
                case measure => simp [intOf]; omega
              · have hax5 : ax = 5 := by omega
                subst hax5
                go_wp2_with fail
                go_roundw
                case rel => exact ⟨(((nodesB evs).length : Nat) : Int) + 1, by first | rfl | go_num, by omega, by omega, HQ⟩
                case measure => first | (simp [intOf]; done) | (simp [intOf]; omega)
          · obtain ⟨i, rfl⟩ : ∃ i : Nat, v = (i : Int) := ⟨v.toNat, by omega⟩
            obtain ⟨x, hx⟩ : ∃ x, (nodesB evs)[i]? = some x := ⟨_, List.getElem?_eq_getElem (by omega)⟩
            obtain ⟨hp1, hp2, e0, he0⟩ := hinv.out i x hx
            obtain ⟨hh1, hh2, hh3⟩ := hlat.out i x hx
            obtain ⟨tv, htv⟩ : ∃ tv, strL (txtR evs i (x.last.toNat + 1)) = tv := ⟨_, rfl⟩
            obtain ⟨fv, hfv⟩ : ∃ fv, strL (((evs.take x.fin).drop x.pos).flatMap evOut) = fv := ⟨_, rfl⟩
            have HVA : Hid (∀ W, Below wr.heap.size wr W → Calls Tryz.prog 21 #[.pointer (some ⟨tb, 0, none⟩), .int .i64 ((i : Nat) : Int)] W fun e w' => e = .returned (.tuple #[.string tv, .int .i64 0]) ∧ Below W.heap.size W w') := Lib.hid fun W hW => by
              have := value_at tb i ((i : Nat) : Int) evs W (HT.out.below (h3.trans (hW.mono h3.size))) HWH.out (.inl rfl) (by omega) (fun e he => (HSM.out e he).2.1) (by omega)
              rw [hh1, htv] at this
              exact this
            have HPR : Hid (∀ W, Below wr.heap.size wr W → Calls Tryz.prog 22 #[.pointer (some ⟨tb, 0, none⟩), .int .i64 ((i : Nat) : Int)] W fun e w' => e = .returned (.tuple #[.string fv, .int .i64 0]) ∧ Below W.heap.size W w') := Lib.hid fun W hW => by
              have := tprint_ok tb i x evs W (HT.out.below (h3.trans (hW.mono h3.size))) hx HWT.out hp1 hp2
              rw [hfv] at this
              exact this
            have HV9 : Hid (∀ W, Below wr.heap.size wr W → Calls Tryz.prog 23 #[.slice an (nodesB evs).length cn, .int .i64 ((i : Nat) : Int)] W fun e w' => e = .returned (.string tv) ∧ Below wr.heap.size wr w') := Lib.hid fun W hW => by
              have := value9_any an cn i ((i : Nat) : Int) x evs W ((HRN8.out wr HR.out).1.below hW) hx (.inl rfl)
              rw [htv] at this
              exact this.mono fun e w' ⟨h1, h2⟩ => ⟨h1, h2 ▸ hW⟩
            have HF9 : Hid (∀ W, Below wr.heap.size wr W → Calls Tryz.prog 24 #[.slice a n c, .slice an (nodesB evs).length cn, .int .i64 ((i : Nat) : Int)] W fun e w' => e = .returned (.string fv) ∧ Below wr.heap.size wr w') := Lib.hid fun W hW => by
              have := form9_any a an n c cn i ((i : Nat) : Int) x evs W (HE.out.below (hw.trans (hW.mono hw.size))) hn ((HRN8.out wr HR.out).1.below hW) hx (.inl rfl) hp1 hp2 HPO.out.1 HPO.out.2
              rw [hfv] at this
              exact this.mono fun e w' ⟨h1, h2⟩ => ⟨h1, hW.trans (h2.mono hW.size)⟩
            have HN1 := Lib.hid (node_at tb i x e0 evs wr (HT.out.below h3) HWH.out hx he0 (HSM.out _ (List.mem_of_getElem? he0)).2.2.1)
            have HPA : Hid (∀ W, Below wr.heap.size wr W → Calls Tryz.prog 14 #[.pointer (some ⟨tb, 0, none⟩), .int .i64 ((i : Nat) : Int)] W fun e w' => e = .returned (.tuple #[.int .i64 x.par, .int .i64 0]) ∧ w' = W) := Lib.hid fun W hW => parent_at tb i x evs W (HT.out.below (h3.trans (hW.mono h3.size))) HWH.out hx
            obtain ⟨br, er, Ar, mr, cr, rfl, hbr, her, hAr, k8, k88, _, _, _, _⟩ := (HRN8.out wr HR.out).1 i x hx
            have : er = e0 := by rw [he0] at her; exact (Option.some.inj her).symm
            subst this
            have HAR := Lib.hid (⟨hAr, k8, k88, hbr⟩ : _ ∧ _ ∧ _ ∧ _)
            have hal0 : er.ats.length ≤ 1048576 := (HSM.out _ (List.mem_of_getElem? he0)).2.2.1
            have i1 : (0 : Int) ≤ (i : Int) := by omega
            have i2 : (i : Int) < ((nodesB evs).length : Nat) := by omega
            have hne9 : (((i : Nat) : Int) == ((nodesB evs).length : Nat)) = false := by simp; omega
            clear hAr k8 k88 her hx he0 hh1 hh2 hh3 hp1 hp2 htv hfv
            generalize x.par = xp at *
            have HW3 := Lib.hid (⟨h3, hw⟩ : _ ∧ _)
            clear h3 hw
            go_wp2_with fail
            (with_reducible refine HN1.out.mono ?_)
            rintro e wa ⟨A1, m1, c1, rfl, _, hA1, _, hba⟩
            unfold evC
            have HBA := Lib.hid hba
            clear hba
            have HPA2 := Lib.hid (HPA.out _ (HBA.out.alloc HBA.out.size (.cells #[.int .i64 er.kind, .int .i64 er.num, .int .i64 er.dep, .string (strL er.name), .slice A1 m1 c1, .string (strL er.text), .int .i64 er.fr, .int .i64 er.tt] 50)))
            have hbx : (wa.alloc (.cells #[.int .i64 er.kind, .int .i64 er.num, .int .i64 er.dep, .string (strL er.name), .slice A1 m1 c1, .string (strL er.text), .int .i64 er.fr, .int .i64 er.tt] 50)).heap[wa.heap.size]? = some (.cells #[.int .i64 er.kind, .int .i64 er.num, .int .i64 er.dep, .string (strL er.name), .slice A1 m1 c1, .string (strL er.text), .int .i64 er.fr, .int .i64 er.tt] 50 (0, 0)) := heap_alloc_new wa _
            have hbw : Below wr.heap.size wr (wa.alloc (.cells #[.int .i64 er.kind, .int .i64 er.num, .int .i64 er.dep, .string (strL er.name), .slice A1 m1 c1, .string (strL er.text), .int .i64 er.fr, .int .i64 er.tt] 50)) := HBA.out.alloc HBA.out.size _
            have hbs : wa.heap.size < (wa.alloc (.cells #[.int .i64 er.kind, .int .i64 er.num, .int .i64 er.dep, .string (strL er.name), .slice A1 m1 c1, .string (strL er.text), .int .i64 er.fr, .int .i64 er.tt] 50)).heap.size := by simp
            have hb0 : Below wa.heap.size wa (wa.alloc (.cells #[.int .i64 er.kind, .int .i64 er.num, .int .i64 er.dep, .string (strL er.name), .slice A1 m1 c1, .string (strL er.text), .int .i64 er.fr, .int .i64 er.tt] 50)) := (Below.refl _ _).alloc (Nat.le_refl _) _
            go_wp2_with fail
            generalize wa.alloc (.cells #[.int .i64 er.kind, .int .i64 er.num, .int .i64 er.dep, .string (strL er.name), .slice A1 m1 c1, .string (strL er.text), .int .i64 er.fr, .int .i64 er.tt] 50) = wb at *
            have HBX := Lib.hid (⟨hbx, hbw, hbs, hb0⟩ : _ ∧ _ ∧ _ ∧ _)
            clear hbx hbw hbs hb0
            have HS : Hid (∀ W, Below wb.heap.size wb W → W.cell? ⟨wa.heap.size, 0, none⟩ = some (.int .i64 er.kind) ∧ W.cell? ⟨wa.heap.size, 1, none⟩ = some (.int .i64 er.num) ∧ W.cell? ⟨wa.heap.size, 2, none⟩ = some (.int .i64 er.dep) ∧ W.cell? ⟨wa.heap.size, 3, none⟩ = some (.string (strL er.name)) ∧ W.cell? ⟨wa.heap.size, 4, none⟩ = some (.slice A1 m1 c1) ∧ W.cell? ⟨wa.heap.size, 5, none⟩ = some (.string (strL er.text)) ∧ W.cell? ⟨wa.heap.size, 6, none⟩ = some (.int .i64 er.fr) ∧ W.cell? ⟨wa.heap.size, 7, none⟩ = some (.int .i64 er.tt) ∧ W.cell? ⟨br, i * 13, none⟩ = some (.int .i64 er.kind) ∧ W.cell? ⟨br, i * 13 + 1, none⟩ = some (.int .i64 er.num) ∧ W.cell? ⟨br, i * 13 + 2, none⟩ = some (.int .i64 er.dep) ∧ W.cell? ⟨br, i * 13 + 3, none⟩ = some (.string (strL er.name)) ∧ W.cell? ⟨br, i * 13 + 4, none⟩ = some (.slice Ar mr cr) ∧ W.cell? ⟨br, i * 13 + 5, none⟩ = some (.string (strL er.text)) ∧ W.cell? ⟨br, i * 13 + 6, none⟩ = some (.int .i64 er.fr) ∧ W.cell? ⟨br, i * 13 + 7, none⟩ = some (.int .i64 er.tt) ∧ W.cell? ⟨br, i * 13 + 8, none⟩ = some (.int .i64 xp) ∧ Below wb.heap.size wb W) := Lib.hid fun W hW => by
              have hc := (hW.block _ HBX.out.2.2.1).trans HBX.out.1
              have hl := HBX.out.2.1.trans (hW.mono HBX.out.2.1.size)
              exact ⟨by rw [cell_heap hc]; rfl, by rw [cell_heap hc]; rfl, by rw [cell_heap hc]; rfl, by rw [cell_heap hc]; rfl, by rw [cell_heap hc]; rfl, by rw [cell_heap hc]; rfl, by rw [cell_heap hc]; rfl, by rw [cell_heap hc]; rfl, (hl.cell (p := ⟨br, i * 13, none⟩) HAR.out.2.2.2).trans (HAR.out.2.1 0 (by decide)), (hl.cell (p := ⟨br, i * 13 + 1, none⟩) HAR.out.2.2.2).trans (HAR.out.2.1 1 (by decide)), (hl.cell (p := ⟨br, i * 13 + 2, none⟩) HAR.out.2.2.2).trans (HAR.out.2.1 2 (by decide)), (hl.cell (p := ⟨br, i * 13 + 3, none⟩) HAR.out.2.2.2).trans (HAR.out.2.1 3 (by decide)), (hl.cell (p := ⟨br, i * 13 + 4, none⟩) HAR.out.2.2.2).trans (HAR.out.2.1 4 (by decide)), (hl.cell (p := ⟨br, i * 13 + 5, none⟩) HAR.out.2.2.2).trans (HAR.out.2.1 5 (by decide)), (hl.cell (p := ⟨br, i * 13 + 6, none⟩) HAR.out.2.2.2).trans (HAR.out.2.1 6 (by decide)), (hl.cell (p := ⟨br, i * 13 + 7, none⟩) HAR.out.2.2.2).trans (HAR.out.2.1 7 (by decide)), (hl.cell (p := ⟨br, i * 13 + 8, none⟩) HAR.out.2.2.2).trans (HAR.out.2.2.1), hW⟩
            have HSAM : Hid (∀ W, Below wb.heap.size wb W → Calls Tryz.prog 20 #[.agg #[.int .i64 er.kind, .int .i64 er.num, .int .i64 er.dep, .string (strL er.name), .slice A1 m1 c1, .string (strL er.text), .int .i64 er.fr, .int .i64 er.tt], .agg #[.int .i64 er.kind, .int .i64 er.num, .int .i64 er.dep, .string (strL er.name), .slice Ar mr cr, .string (strL er.text), .int .i64 er.fr, .int .i64 er.tt]] W fun e w' => e = .returned (.bool true) ∧ Below wb.heap.size wb w') := Lib.hid fun W hW =>
              (same_any er A1 Ar m1 c1 mr cr W (hA1.below (HBX.out.2.2.2.trans (hW.mono HBX.out.2.2.2.size))) (HAR.out.1.below (HBX.out.2.1.trans (hW.mono HBX.out.2.1.size))) (by rw [hA1.1]; exact hal0)).mono fun e w' ⟨h1, h2⟩ => ⟨h1, hW.trans (h2.mono hW.size)⟩
            clear hA1
            (with_reducible refine HPA2.out.mono ?_)
            rintro e w' ⟨rfl, hw'⟩
            subst w'
            go_wp2_with fail
            obtain ⟨z0, z1, z2, z3, z4, z5, z6, z7, z8, z9, z10, z11, z12, z13, z14, z15, z16, z17⟩ := HS.out wb (Below.refl _ _)
            have HDR := (Below.refl wb.heap.size wb).drew
            go_region_held3 (fun w' => w'.cell? ⟨wa.heap.size, 0, none⟩ = some (.int .i64 er.kind) ∧ w'.cell? ⟨wa.heap.size, 1, none⟩ = some (.int .i64 er.num) ∧ w'.cell? ⟨wa.heap.size, 2, none⟩ = some (.int .i64 er.dep) ∧ w'.cell? ⟨wa.heap.size, 3, none⟩ = some (.string (strL er.name)) ∧ w'.cell? ⟨wa.heap.size, 4, none⟩ = some (.slice A1 m1 c1) ∧ w'.cell? ⟨wa.heap.size, 5, none⟩ = some (.string (strL er.text)) ∧ w'.cell? ⟨wa.heap.size, 6, none⟩ = some (.int .i64 er.fr) ∧ w'.cell? ⟨wa.heap.size, 7, none⟩ = some (.int .i64 er.tt) ∧ w'.cell? ⟨br, i * 13, none⟩ = some (.int .i64 er.kind) ∧ w'.cell? ⟨br, i * 13 + 1, none⟩ = some (.int .i64 er.num) ∧ w'.cell? ⟨br, i * 13 + 2, none⟩ = some (.int .i64 er.dep) ∧ w'.cell? ⟨br, i * 13 + 3, none⟩ = some (.string (strL er.name)) ∧ w'.cell? ⟨br, i * 13 + 4, none⟩ = some (.slice Ar mr cr) ∧ w'.cell? ⟨br, i * 13 + 5, none⟩ = some (.string (strL er.text)) ∧ w'.cell? ⟨br, i * 13 + 6, none⟩ = some (.int .i64 er.fr) ∧ w'.cell? ⟨br, i * 13 + 7, none⟩ = some (.int .i64 er.tt) ∧ w'.cell? ⟨br, i * 13 + 8, none⟩ = some (.int .i64 xp) ∧ Below wb.heap.size wb w') (first | exact HS.out _ ‹_› | exact HS.out _ HDR) (first | (go_at_call 20; (with_reducible refine (HSAM.out _ ‹_›).mono ?_); rintro e wc ⟨rfl, hbc⟩))
            have HC1 : Hid (Below wr.heap.size wr wc) := Lib.hid (HBX.out.2.1.trans (hbc.mono HBX.out.2.1.size))
            clear z0 z1 z2 z3 z4 z5 z6 z7 z8 z9 z10 z11 z12 z13 z14 z15 z16 z17 HDR hbc
            have HVK := Lib.hid (HVA.out wc HC1.out)
            go_wp2_with fail
            (with_reducible refine HVK.out.mono ?_)
            rintro e wd ⟨rfl, hbd⟩
            have HD1 := Lib.hid (HC1.out.trans (hbd.mono HC1.out.size))
            have HPK := Lib.hid (HPR.out wd HD1.out)
            clear hbd
            go_wp2_with fail
            (with_reducible refine HPK.out.mono ?_)
            rintro e we ⟨rfl, hbe⟩
            have hE1 := HD1.out.trans (hbe.mono HD1.out.size)
            have HE1 := Lib.hid hE1
            have hE1d := hE1.drew
            clear hbe
            go_wp2_with fail
            (with_reducible refine (HV9.out _ HE1.out).mono ?_)
            rintro e wf ⟨rfl, hbf⟩
            have HFK := Lib.hid (HF9.out wf hbf)
            go_wp2_with fail
            (with_reducible refine HFK.out.mono ?_)
            rintro e wg ⟨rfl, hbg⟩
            have HG1 := Lib.hid hbg
            clear hbg hbf hE1 hE1d
            have HG8 := Lib.hid (HR.out.trans (HG1.out.mono HR.out.size))
            go_wp2_with fail
            go_loopw [17] (fun xv W => ∃ ax : Int, xv = .int .i64 ax ∧ -1 ≤ ax ∧ ax ≤ 5 ∧ Hid (Below w8.heap.size w8 W)) (fun xv _ => (5 - intOf xv).toNat)
            case atStart => exact ⟨-1, rfl, by omega, by omega, HG8⟩
            case round =>
              obtain ⟨ax, rfl, hax1, hax2, HQ⟩ := hrel
              by_cases hax : ax < 5
              · have ewx : IntKind.i64.wrap (ax + 1) = ax + 1 := IntWalk.i64_in _ (by omega)
                have HX1 := Lib.hid (HAL3.out wr HQ.out ((i : Nat) : Int) ax)
                go_wp2_with fail
                (with_reducible refine HX1.out.mono ?_)
                rintro e wh ⟨Ah, mh, ch, rfl, hmh, hIh, hbh⟩
                have HH := Lib.hid (HQ.out.trans (hbh.mono HQ.out.size))
                have HX9 := Lib.hid (HAL9.out wh HH.out ((i : Nat) : Int) ax hax1 (by omega))
                have HIH := Lib.hid (⟨hIh, hmh⟩ : _ ∧ _)
                clear hIh hmh hbh
                go_wp2_with fail
                (with_reducible refine HX9.out.mono ?_)
                rintro e wi ⟨Ai, ci, rfl, hIi, hbi⟩
                have HI := Lib.hid (HH.out.trans (hbi.mono HH.out.size))
                have HIN : Hid (Calls Tryz.prog 12 #[.slice Ah mh ch, .slice Ai (alongM (nodesB evs).length (lastN evs) ((i : Nat) : Int) ax).length ci] wi fun e w' => e = .returned (.bool true) ∧ Below wi.heap.size wi w') := Lib.hid (by
                  refine (lawInts_any Ah Ai mh _ ch ci _ _ wi (HIH.out.1.below hbi) hIi (by have := alongM_len (nodesB evs).length (lastN evs) ((i : Nat) : Int) ax; have := HIH.out.2; omega)).mono ?_
                  rintro e w' ⟨rfl, hb⟩
                  exact ⟨by simp, hb⟩)
                clear hIi hbi
                go_wp2_with fail
                (with_reducible refine HIN.out.mono ?_)
                rintro e wj ⟨rfl, hbj⟩
                have HJ := Lib.hid (HI.out.trans (hbj.mono HI.out.size))
                clear hbj
                go_wp2_with fail
                go_roundw
                case rel => exact ⟨ax + 1, rfl, by omega, by omega, HJ⟩
                case measure => simp [intOf]; omega
              · have hax5 : ax = 5 := by omega
                subst hax5
                go_wp2_with fail
                go_roundw
                case rel => exact ⟨((i : Nat) : Int) + 1, by first | rfl | go_num, by omega, by omega, HQ⟩
                case measure => first | (simp [intOf]; done) | (simp [intOf]; omega)
    · have hvL2 : v = ((nodesB evs).length : Int) + 1 := by omega
      have hgt : ((nodesB evs).length : Int) < v := by omega
      clear hvL2
      go_wp2_with fail
      go_ret
      exact ⟨rfl, hw⟩
end Go.Proofs.YtopfbngdbhofkaaGreatDoor
