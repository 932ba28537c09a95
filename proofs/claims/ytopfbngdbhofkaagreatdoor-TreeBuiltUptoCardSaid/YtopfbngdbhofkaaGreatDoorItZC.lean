/-
  The law's copied: events as new memory.
-/
import Derived.Test.YtopfbngdbhofkaaGreatDoorItJ
import Derived.Deep.Cut
import Derived.Test.YtopfbngdbhofkaaGreatDoorItS
import Derived.Test.YtopfbngdbhofkaaGreatDoorItU
namespace Go.Proofs.YtopfbngdbhofkaaGreatDoor
open Go.RowKit

theorem setL_set_low : ∀ (l cs : List Value) (p q : Nat) (u : Value), p < q → (setL cs q l).set p u = setL (cs.set p u) q l
  | [], _, _, _, _, _ => rfl
  | v :: l, cs, p, q, u, h => by
    show (setL (cs.set q v) (q + 1) l).set p u = setL ((cs.set p u).set q v) (q + 1) l
    rw [setL_set_low l _ p (q + 1) u (by omega), List.set_comm _ _ (by omega)]
theorem setL_set : ∀ (l cs : List Value) (p j : Nat) (u : Value), (setL cs p l).set (p + j) u = if j < l.length then setL cs p (l.set j u) else (setL cs p l).set (p + j) u
  | [], cs, p, j, u => by rw [if_neg (by simp)]
  | v :: l, cs, p, 0, u => by
    rw [if_pos (by simp)]
    show (setL (cs.set p v) (p + 1) l).set (p + 0) u = setL (cs.set p u) (p + 1) l
    rw [Nat.add_zero, setL_set_low _ _ _ _ _ (by omega)]
    congr 1
    simp
  | v :: l, cs, p, j + 1, u => by
    have := setL_set l (cs.set p v) (p + 1) j u
    by_cases h : j < l.length
    · rw [if_pos h] at this
      rw [if_pos (by simp; omega)]
      show (setL (cs.set p v) (p + 1) l).set (p + (j + 1)) u = setL (cs.set p v) (p + 1) (l.set j u)
      rw [← this, show p + (j + 1) = p + 1 + j by omega]
    · rw [if_neg (by simp; omega)]
theorem evL_set (e : Ev) (A : Option Addr) (m c : Nat) (A' : Option Addr) (c2 : Nat) : (evL e A m c).set 4 (.slice A' m c2) = evL e A' m c2 := rfl
set_option maxRecDepth 1000000 in
set_option maxHeartbeats 4000000 in
theorem lawCopied_any (a : Option Addr) (n c : Nat) (evs : List Ev) (w : World) (hE : EvsAt w a n evs) (hn : n ≤ 1048576) (hl : ∀ e ∈ evs, e.ats.length ≤ 1048576) :
    Calls Tryz.prog 9 #[.slice a n c] w fun e w' => ∃ cs, e = .returned (.slice (some ⟨w.heap.size, 0, none⟩) n n) ∧ w'.ownsRow w.heap.size 50 8 (.slice (some ⟨w.heap.size, 0, none⟩) n n) n cs ∧ EvRow w' (w.heap.size + 1) n evs cs ∧ Below w.heap.size w w' := by
  obtain ⟨i0, hi, hz0, hz1, hz2⟩ := info_parts infoEv
  obtain ⟨j0, hj, hjz0, hjz1, hjz2⟩ := info_parts infoAttr
  have HE := Lib.hid hE
  have HN : Hid (n = evs.length) := Lib.hid hE.1
  have HL := Lib.hid hl
  clear hE hl
  go_enter Tryz.func9, Tryz.ntmps9
  go_wp2_with (at_make; go_must ((refine wpList_make_full _ (by rfl) _ _ 22 (by rfl) w.heap.size 50 i0 _ 8 Tryz.underlying22 hi hz0 hz1 .i64 .i64 (n : Int) (n : Int) n (by rfl) (by rfl) rfl rfl (by rw [hz2]; omega) (by unfold maxLen; omega) (Nat.le_refl _) (fun w1 hown hgr => ?_))))
  have hb1 : Below w.heap.size w w1 := (Below.refl _ w).grown hgr (Nat.le_refl _) (fun k hk => by cases hk)
  generalize (madeCells _ (n * 8)).toList = cs0 at hown
  go_loopw [4] (fun iv wr => ∃ (k : Nat) (cs : List Value), iv = .int .i64 k ∧ k ≤ n ∧ Below w.heap.size w wr ∧ wr.ownsRow w.heap.size 50 8 (.slice (some ⟨w.heap.size, 0, none⟩) n n) n cs ∧ EvRow wr (w.heap.size + 1) k evs cs) (fun iv _ => n - (intOf iv).toNat)
  case atStart => exact ⟨0, cs0, rfl, Nat.zero_le _, hb1, hown, fun i hi h => by omega⟩
  case round =>
    obtain ⟨k, cs, rfl, hk, hbr, hor, hrow⟩ := hrel
    by_cases hkn : k < n
    · have hkl : k < evs.length := by rw [← HN.out]; exact hkn
      obtain ⟨b, o, A, m, c', rfl, hb, hmc, hA, hcells⟩ := HE.out.at8 k hkl
      obtain ⟨e0, e1, e2, e3, e4, e5, e6, e7⟩ := hcells wr hbr
      have hla := HL.out _ (List.getElem_mem hkl)
      have hm : m ≤ 1048576 := by rw [hA.1]; exact hla
      have hml : m = evs[k].ats.length := hA.1
      clear hla
      have HS1 : Hid (w.heap.size < wr.heap.size) := Lib.hid (hor.lt _ rfl).2
      have hbwr := Nat.lt_of_lt_of_le hb hbr.size
      obtain ⟨x0, y0⟩ := own_cell hor (k * 8) (by omega)
      obtain ⟨x1, y1⟩ := own_cell hor (k * 8 + 1) (by omega)
      obtain ⟨x2, y2⟩ := own_cell hor (k * 8 + 2) (by omega)
      obtain ⟨x3, y3⟩ := own_cell hor (k * 8 + 3) (by omega)
      obtain ⟨x4, y4⟩ := own_cell hor (k * 8 + 4) (by omega)
      obtain ⟨x5, y5⟩ := own_cell hor (k * 8 + 5) (by omega)
      obtain ⟨x6, y6⟩ := own_cell hor (k * 8 + 6) (by omega)
      obtain ⟨x7, y7⟩ := own_cell hor (k * 8 + 7) (by omega)
      have z := fun j => hor.frozenAt j
      have hgb : w.heap.size ≠ b := by omega
      have hlen : cs.length = evs.length * 8 := by have := hor.1; have := HN.out; omega
      have i1 : (0 : Int) ≤ (k : Int) := by omega
      have i2 : (k : Int) < (n : Int) := by omega
      have HOR := Lib.hid hor
      have HROW := Lib.hid hrow
      have HBR := Lib.hid hbr
      have HA := Lib.hid hA
      have HLN := Lib.hid (⟨hlen, hml⟩ : _ ∧ _)
      obtain ⟨W5, hW5⟩ : ∃ W5, W5 = setC wr w.heap.size (k * 8) (evL evs[k] A m c') := ⟨_, rfl⟩
      have HW5 := Lib.hid hW5
      have h5size : W5.heap.size = wr.heap.size := by rw [hW5, setC_size]
      have h5below : Below w.heap.size w W5 := by rw [hW5]; exact setC_below _ _ _ _ (Nat.le_refl _) hbr
      have h5own : W5.ownsRow w.heap.size 50 8 (.slice (some ⟨w.heap.size, 0, none⟩) n n) n (setL cs (k * 8) (evL evs[k] A m c')) := by rw [hW5]; exact setC_own _ _ _ _ hor
      have h5far : ∀ j, j ≠ w.heap.size → W5.heap[j]? = wr.heap[j]? := fun j hj => by rw [hW5]; exact setC_far _ _ _ _ _ hj
      have hwA : Below w.heap.size w (W5.alloc (.cells #[] 63)) := h5below.alloc (by have := HS1.out; omega) _
      have h0own : (W5.alloc (.cells #[] 63)).ownsRow wr.heap.size 63 2 (.slice (some ⟨wr.heap.size, 0, none⟩) 0 0) 0 [] := by
        have := World.ownsRow_lit (base := wr.heap.size) (e := 63) (size := 2) W5 #[] 0 (by omega) (by unfold maxLen; omega) rfl
        rw [h5size] at this
        simpa using this
      have e4' : W5.cell? ⟨b, o + k * 8 + 4, none⟩ = some (.slice A m c') := by
        have := h5far b (fun e => hgb e.symm)
        simp only [World.cell?, this] at e4 ⊢
        exact e4
      have H5 := Lib.hid (⟨h5size, h5below, h5own, h5far, hwA, h0own⟩ : _ ∧ _ ∧ _ ∧ _ ∧ _ ∧ _)
      clear hml hcells hA hor hrow hbr h5size h5below h5own h5far hwA h0own hW5 hlen
      go_upto_region 6 with fail
      have hW : W5 = (((((((wr.setCell ⟨w.heap.size, k * 8, none⟩ (.int .i64 evs[k].kind)).setCell ⟨w.heap.size, k * 8 + 1, none⟩ (.int .i64 evs[k].num)).setCell ⟨w.heap.size, k * 8 + 2, none⟩ (.int .i64 evs[k].dep)).setCell ⟨w.heap.size, k * 8 + 3, none⟩ (.string (strL evs[k].name))).setCell ⟨w.heap.size, k * 8 + 4, none⟩ (.slice A m c')).setCell ⟨w.heap.size, k * 8 + 5, none⟩ (.string (strL evs[k].text))).setCell ⟨w.heap.size, k * 8 + 6, none⟩ (.int .i64 evs[k].fr)).setCell ⟨w.heap.size, k * 8 + 7, none⟩ (.int .i64 evs[k].tt) := HW5.out
      rw [← hW]
      clear hW y0 y1 y2 y3 y4 y5 y6 y7 z e0 e1 e2 e3 e4 e5 e6 e7
      have e4a : ∀ o', (W5.alloc o').cell? ⟨b, o + k * 8 + 4, none⟩ = some (.slice A m c') := fun o' => by
        have hb5 : b < W5.heap.size := by rw [H5.out.1]; exact hbwr
        have := Below.heap_alloc W5 o' b hb5
        simp only [World.cell?, this] at e4' ⊢
        exact e4'
      clear e4'
      go_wp2_with (at_builtin; go_must ((refine wpList_app_row (W5.alloc (.cells #[] 63)) (by rfl) _ _ 48 (by rfl) wr.heap.size 63 j0 (.agg #[.string ⟨#[]⟩, .string ⟨#[]⟩]) 2 32 Tryz.underlying48 hj hjz0 hjz1 hjz2 (by rfl) (by decide) (.slice (some ⟨W5.heap.size, 0, none⟩) 0 0) 0 [] (by rfl) (by rw [H5.out.1]; exact H5.out.2.2.2.2.2) A m c' (atC evs[k].ats) (by rfl) (by rw [atC_length, HA.out.1]) (fun ad ha j u hj => (HA.out.below H5.out.2.2.2.2.1).cells ad ha j u hj) (HA.out.none) (atC_one evs[k].ats) (by omega) (by decide) (by have := H5.out.1; simp; omega) (fun v' w1 hown hap => ?_)); (obtain ⟨A', c2, rfl, hmc2, hA', hfr⟩ := own_attrs (by simpa using hown)); have hsz1 := hap.grown.size; have hkp : ∀ j, j < W5.heap.size → w1.heap[j]? = W5.heap[j]? := (fun j hj => (hap.keep (by simp; omega) (fun e => by have e' : W5.heap.size = j := Option.some.inj e; omega)).trans (Below.heap_alloc _ _ _ hj)); have hor1 := own_block H5.out.2.2.1 (fun j hj => by cases hj; exact hkp _ (by rw [H5.out.1]; exact HS1.out)); obtain ⟨x4, y4⟩ := own_cell hor1 (k * 8 + 4) (by omega); have z := fun j => hor1.frozenAt j))
      have hlen := HLN.out.1
      have hs5 := H5.out.1
      have hszW : W5.heap.size ≤ w1.heap.size := Nat.le_trans (by simp) hsz1
      have hfr2 : ∀ ad, A' = some ad → w.heap.size + 1 ≤ ad.block := fun ad h => by have := hfr ad h; have := HS1.out; omega
      have hsg : (w1.setCell ⟨w.heap.size, k * 8 + 4, none⟩ (.slice A' m c2)).heap.size = w1.heap.size := by simp [World.setCell]
      have hset : (setL cs (k * 8) (evL evs[k] A m c')).set (k * 8 + 4) (.slice A' m c2) = setL cs (k * 8) (evL evs[k] A' m c2) := by
        rw [setL_set, if_pos (by show 4 < 8; decide), evL_set]
      have hstep := HROW.out.step (w' := w1.setCell ⟨w.heap.size, k * 8 + 4, none⟩ (.slice A' m c2)) hlen hkl (by rw [hsg]; omega) (fun j h1 h2 => by rw [Below.heap_setCell _ _ _ _ (by simp only; omega), hkp j (by omega), H5.out.2.2.2.1 j (by omega)]) A' m c2 hmc2 (hA'.keep (by rw [hsg]; exact Nat.le_refl _) (fun j o' e hlt => Below.heap_setCell _ _ _ _ (by have := hfr2 _ e; simp only at this; simp only; omega))) hfr2
      have hown' := (hor1.stored (k * 8 + 4) (.slice A' m c2)).1
      rw [hset] at hown'
      have hbelow' : Below w.heap.size w (w1.setCell ⟨w.heap.size, k * 8 + 4, none⟩ (.slice A' m c2)) := (H5.out.2.2.2.2.1.trans (hap.below (B := w.heap.size) (by simp; have := HS1.out; omega) (fun j hj => by have e' : W5.heap.size = j := Option.some.inj hj; have := HS1.out; omega))).setCell (p := ⟨w.heap.size, k * 8 + 4, none⟩) (Nat.le_refl _) _
      go_roundw
      case rel => exact ⟨k + 1, setL cs (k * 8) (evL evs[k] A' m c2), by go_num, by omega, hbelow', hown', hstep⟩
      case measure => simp [intOf]; omega
    · have hk2 : k = n := by omega
      subst hk2
      go_wp2_with fail
      go_ret
      exact ⟨cs, rfl, hor, hrow, hbr⟩
end Go.Proofs.YtopfbngdbhofkaaGreatDoor

/-
  The law's ints: are two rows of numbers alike?
-/
namespace Go.Proofs.YtopfbngdbhofkaaGreatDoor
open Go.RowKit

/-- a slice of numbers -/
structure IntsAt (w : World) (a : Option Addr) (n : Nat) (l : List Int) : Prop where
  len : n = l.length
  at' : ∀ i, (h : i < l.length) → ∃ b o, a = some ⟨b, o, none⟩ ∧ b < w.heap.size ∧ w.cell? ⟨b, o + i, none⟩ = some (.int .i64 l[i])
theorem IntsAt.below {w w' : World} {a : Option Addr} {n : Nat} {l : List Int} (h : IntsAt w a n l) (hb : Below w.heap.size w w') : IntsAt w' a n l :=
  ⟨h.len, fun i hi => by
    obtain ⟨b, o, e, hlt, hc⟩ := h.at' i hi
    exact ⟨b, o, e, Nat.lt_of_lt_of_le hlt hb.size, (hb.cell (p := ⟨b, o + i, none⟩) hlt).trans hc⟩⟩
theorem own_ints {w : World} {base n : Nat} {e : TypeId} {v : Value} {l : List Int} (h : w.ownsRow base e 1 v n (l.map (Value.int .i64))) : ∃ a c, v = .slice a n c ∧ n ≤ c ∧ IntsAt w a n l := by
  have hn : n = l.length := by have := h.1; simp at this; omega
  obtain ⟨a, c, rfl, h1, h2, h3⟩ := own_slice h
  refine ⟨a, c, rfl, h1, hn, fun i hi => ?_⟩
  cases a with
  | none => have := h2 rfl; omega
  | some ad =>
    obtain ⟨g, rfl, hg, hl, _, hc⟩ := h3 _ rfl
    exact ⟨g, 0, rfl, hl, by rw [Nat.zero_add]; exact hc _ _ (by simp [hi])⟩
set_option maxRecDepth 1000000 in
set_option maxHeartbeats 4000000 in
theorem lawInts_any (a b : Option Addr) (n m c d : Nat) (l k : List Int) (w : World) (h1 : IntsAt w a n l) (h2 : IntsAt w b m k) (hn : n ≤ 1048576) :
    Calls Tryz.prog 12 #[.slice a n c, .slice b m d] w fun e w' => e = .returned (.bool (decide (l = k))) ∧ Below w.heap.size w w' := by
  by_cases hnm : n = m
  · subst hnm
    have HLK : Hid (l.length = n ∧ k.length = n) := Lib.hid ⟨h1.len.symm, h2.len.symm⟩
    have H1 := Lib.hid h1.at'
    have H2 := Lib.hid h2.at'
    clear h1 h2
    go_enter Tryz.func12, Tryz.ntmps12
    go_wp2_with fail
    go_loopw [5] (fun iv wr => ∃ i : Nat, iv = .int .i64 i ∧ i ≤ n ∧ Hid (l.take i = k.take i) ∧ Below w.heap.size w wr) (fun iv _ => n - (intOf iv).toNat)
    case atStart => exact ⟨0, rfl, Nat.zero_le _, Lib.hid rfl, Below.refl _ _⟩
    case round =>
      obtain ⟨i, rfl, hi, htk, hbr⟩ := hrel
      by_cases hin : i < n
      · obtain ⟨b1, o1, rfl, hb1, hc1⟩ := H1.out i (by have := HLK.out.1; omega)
        obtain ⟨b2, o2, rfl, hb2, hc2⟩ := H2.out i (by have := HLK.out.2; omega)
        have hil : i < l.length := by have := HLK.out.1; omega
        have hik : i < k.length := by have := HLK.out.2; omega
        have e1 := (hbr.cell (p := ⟨b1, o1 + i, none⟩) hb1).trans hc1
        have e2 := (hbr.cell (p := ⟨b2, o2 + i, none⟩) hb2).trans hc2
        have i1 : (0 : Int) ≤ (i : Int) := by omega
        have i2 : (i : Int) < (n : Int) := by omega
        have ew : IntKind.i64.wrap ((i : Int) + 1) = (i : Int) + 1 := IntWalk.i64_in _ (by omega)
        obtain ⟨x, hx⟩ : ∃ x, l[i] = x := ⟨_, rfl⟩
        obtain ⟨y, hy⟩ : ∃ y, k[i] = y := ⟨_, rfl⟩
        rw [hx] at e1
        rw [hy] at e2
        have HXY := Lib.hid (⟨hx, hy⟩ : _ ∧ _)
        have HB := Lib.hid (hbr.drew)
        clear hc1 hc2 hx hy hbr
        by_cases hxy : x = y
        · subst hxy
          have HT : Hid (l.take (i + 1) = k.take (i + 1)) := Lib.hid (by
            rw [List.take_succ_eq_append_getElem hil, List.take_succ_eq_append_getElem hik, htk.out, HXY.out.1, HXY.out.2])
          clear htk
          go_wp2_with fail
          go_region
          go_wp2_with fail
          go_roundw
          case rel => exact ⟨i + 1, by go_num, by omega, HT, HB.out⟩
          case measure => simp [intOf]; omega
        · have hd : (x != y) = true := by simp [hxy]
          have hf : Hid (decide (l = k) = false) := Lib.hid (decide_eq_false fun e => by
            subst e
            exact hxy (HXY.out.1.symm.trans HXY.out.2))
          go_wp2_with fail
          go_region
          go_wp2_with fail
          go_ret
          exact ⟨by rw [hf.out]; rfl, HB.out⟩
      · have hi2 : i = n := by omega
        subst hi2
        have hlk : Hid (decide (l = k) = true) := Lib.hid (decide_eq_true (by
          have := htk.out
          rw [List.take_of_length_le (by have := HLK.out.1; omega), List.take_of_length_le (by have := HLK.out.2; omega)] at this
          exact this))
        go_wp2_with fail
        go_ret
        exact ⟨by rw [hlk.out]; rfl, hbr⟩
  · have hd : ((n : Int) != (m : Int)) = true := by simp; omega
    have hf : Hid (decide (l = k) = false) := Lib.hid (decide_eq_false fun e => hnm (by rw [h1.len, h2.len, e]))
    clear h1 h2
    go_enter Tryz.func12, Tryz.ntmps12
    go_wp2_with fail
    go_ret
    exact ⟨by rw [hf.out]; rfl, Below.refl _ _⟩
end Go.Proofs.YtopfbngdbhofkaaGreatDoor

/-
  The law's along: what an axis gives, as a row.
-/
namespace Go.Proofs.YtopfbngdbhofkaaGreatDoor
open Go.RowKit Go.Shelf

attribute [local go_sem] Oper.semAt_some

theorem own_base {w : World} {base base' : Nat} {e : TypeId} {size : Nat} {v : Value} {k : Nat} {xs : List Value} (h : w.ownsRow base e size v k xs) (hb : base' ≤ base) : w.ownsRow base' e size v k xs := by
  refine ⟨h.1, ?_⟩
  rcases h.2 with h2 | ⟨g, cap, cur, h1, h3, h4⟩
  · exact .inl h2
  · exact .inr ⟨g, cap, cur, h1, Nat.le_trans hb h3, h4⟩

set_option maxRecDepth 1000000 in
set_option maxHeartbeats 4000000 in
/-- the loop: whatever the iterator is -/
theorem lawAlong_of (t : Option Addr) (v a : Int) (xs : List Int) (w : World) (hx : xs.length ≤ 1000)
    (hS : ∀ n, 1 ≤ n → SeqStopsK Fence.wide n Tryz.prog 31 #[.pointer (some ⟨w.heap.size + 1, 0, none⟩), .pointer (some ⟨w.heap.size + 1 + 1, 0, none⟩), .pointer (some ⟨w.heap.size + 1 + 1 + 1, 0, none⟩)] (fun x : Int => #[Value.int .i64 x]) (KpX (fun k => k = w.heap.size) (w.heap.size + 4)) (fun ys => ys = xs) (fun pre => pre <+: xs) xs.length
      ((((w.alloc (.cells #[.slice none 0 0] 34)).alloc (.cells #[.pointer t] 24)).alloc (.cells #[.int .i64 v] 3)).alloc (.cells #[.int .i64 a] 33))) :
    Calls Tryz.prog 13 #[.pointer t, .int .i64 v, .int .i64 a] w fun e w' => ∃ r, e = .returned r ∧ w'.ownsRow w.heap.size 3 1 r xs.length (xs.map (Value.int .i64)) ∧ Below w.heap.size w w' := by
  have hro : Fence.wide.round = none := rfl
  obtain ⟨i0, hi, hz0, hz1, hz2⟩ := info_parts infoInt
  refine (callsIn_wide (n := 9)).1 ?_
  refine callsIn_of_wp_marks Tryz.func13 rfl trivial ?_ hro
  simp only [Tryz.ntmps13, List.size_toArray, List.length_cons, List.length_nil, Nat.reduceAdd, Nat.reduceSub, Array.replicate_succ, Array.replicate_zero, List.push_toArray, List.append_toArray, List.nil_append, List.cons_append]
  gi_wp2_with (refine ⟨trivial, ?_⟩; gi_at_call 11; refine (callsIn_wide.2 (along_makes _ _ _ _)).mono ?_; rintro e w' ⟨rfl, hw⟩; subst w')
  try simp only [World.size_alloc]
  have bO := (((Boxed.new w 34 (.slice none 0 0)).alloc (.cells #[.pointer t] 24)).alloc (.cells #[.int .i64 v] 3)).alloc (.cells #[.int .i64 a] 33)
  have hB0 : Below w.heap.size w ((((w.alloc (.cells #[.slice none 0 0] 34)).alloc (.cells #[.pointer t] 24)).alloc (.cells #[.int .i64 v] 3)).alloc (.cells #[.int .i64 a] 33)) := ((((Below.refl _ w).alloc (Nat.le_refl _) _).alloc (by simp) _).alloc (by simp; omega) _).alloc (by simp; omega) _
  have hsz : ((((w.alloc (.cells #[.slice none 0 0] 34)).alloc (.cells #[.pointer t] 24)).alloc (.cells #[.int .i64 v] 3)).alloc (.cells #[.int .i64 a] 33)).heap.size = w.heap.size + 4 := by simp
  have hS' := hS 8 (by decide)
  clear hS
  obtain ⟨W0, hW0⟩ : ∃ W0, (((w.alloc (.cells #[.slice none 0 0] 34)).alloc (.cells #[.pointer t] 24)).alloc (.cells #[.int .i64 v] 3)).alloc (.cells #[.int .i64 a] 33) = W0 := ⟨_, rfl⟩
  rw [hW0] at bO hB0 hsz hS' ⊢
  clear hW0
  refine wpIn_rangeFunc_ownG hro (by decide) (gf := 31) (lb := #[.pointer (some ⟨w.heap.size + 1, 0, none⟩), .pointer (some ⟨w.heap.size + 1 + 1, 0, none⟩), .pointer (some ⟨w.heap.size + 1 + 1 + 1, 0, none⟩)]) rfl trivial (enters_of Tryz.func31 (by kernel_rfl) rfl)
    hS' KpX.trans (kpX_b (by omega)) (Below.refl _ _) (fun _ => rfl)
    (fun pre W => (∃ r, Boxed W w.heap.size 34 r ∧ W.ownsRow (w.heap.size + 4) 3 1 r pre.length (pre.map (Value.int .i64)) ∧ True) ∧ KpX (fun k => k = w.heap.size) (w.heap.size + 4) W0 W)
    (fun _ _ _ => False)
    (OwnFrom.and (Own.from (holdsRow_own (w.heap.size + 4) w.heap.size 34 3 1 (fun pre : List Int => pre.length) (fun pre => pre.map (Value.int .i64)) (fun _ _ => True)) _) (ownFrom_kpX (by omega) (by omega)))
    (fun _ _ _ _ _ hs _ _ => hs)
    ⟨⟨_, bO, World.ownsRow_nil _ _ _ _, trivial⟩, KpX.refl _ _ _⟩
    (fun x => { tmps := #[.pointer t, .int .i64 v, .int .i64 a, undef, undef, undef, .slice none 0 0, .pointer (some ⟨w.heap.size, 0, none⟩), .int .i64 x, .pointer t, .int .i64 v, .int .i64 a, .func (.func 31) #[] #[.pointer (some ⟨w.heap.size + 1, 0, none⟩), .pointer (some ⟨w.heap.size + 1 + 1, 0, none⟩), .pointer (some ⟨w.heap.size + 1 + 1 + 1, 0, none⟩)], .int .i64 x, undef, undef, undef, undef, undef, undef, undef, undef], defers := [] }) ?assign ?body ?done ?stop
  case assign =>
    intro l x W K hK
    gi_wp2
    exact hK
  case body =>
    rintro l pre x W ⟨⟨r, hv, hrow, _⟩, hK⟩ hlt
    have hsW := hK.size
    obtain ⟨oa, oc, rfl, _, _, _⟩ := own_slice hrow
    have hc := hv.cell
    have hp : (pre.length : Int) ≤ 1000 := by omega
    gi_wp2_with (gi_at_builtin; refine wpListIn_append_own _ rfl _ _ 34 rfl (w.heap.size + 4) 3 i0 (.int .i64 0) 1 8 Tryz.underlying34 hi hz0 hz1 hz2 rfl (by decide) _ _ _ rfl (hrow.alloc _) ⟨W.heap.size, 0, none⟩ 1 1 [.int .i64 x] rfl rfl (cell_one_new _ _ _) (by simp [Value.oneCell']) (by unfold maxLen; omega) (by omega) (by simp; omega) ?_; intro v' w1 hown' hgrow _; obtain ⟨g', cap', rfl⟩ := ownsRow_succ hown'; obtain ⟨hv1, hv2, hr2, hk2, hb2⟩ := boxApp (X := fun k => k = w.heap.size) hv hrow (by omega) rfl (by omega) hown' hgrow; have hc1 := hv1.cell; have hf1 := hv1.frozen)
    exact ⟨hk2.from _, hb2, ⟨_, hv2, by simpa using hr2, trivial⟩, hK.trans hb2⟩
  case done =>
    rintro D ys W hD rfl ⟨⟨r, hv, hrow, _⟩, hK⟩ hKD
    have hc := hv.cell
    gi_wp2
    refine ⟨by simp, .inl ⟨_, _, rfl, run_takeDeferred hKD, ?_⟩⟩
    refine ⟨_, results_tmp rfl _ _ _, r, rfl, own_base (ownsRow_putObj hrow _ hKD rfl) (by omega), ?_⟩
    exact (hB0.trans (hK.below (by omega) (fun k h1 h2 => by omega))).trans (belowK_b (w := w) (Nat.le_refl _) W D _ _ (by omega) hKD rfl rfl)
  case stop =>
    rintro D c pre W _ _ h _
    exact h.elim
theorem lawAlong_any (tb L : Nat) (f : Nat → Nat) (v a : Int) (w : World) (hT : LastAt w (fun k => k < w.heap.size) tb L f) (hL : L ≤ 1048576) (hf : ∀ i, i < L → i ≤ f i ∧ f i < L) (hx : (alongM L f v a).length ≤ 1000) :
    Calls Tryz.prog 13 #[.pointer (some ⟨tb, 0, none⟩), .int .i64 v, .int .i64 a] w fun e w' => ∃ r, e = .returned r ∧ w'.ownsRow w.heap.size 3 1 r (alongM L f v a).length ((alongM L f v a).map (Value.int .i64)) ∧ Below w.heap.size w w' := by
  refine lawAlong_of (some ⟨tb, 0, none⟩) v a _ w hx (fun n hn => ?_)
  have hB0 : Below w.heap.size w ((((w.alloc (.cells #[.slice none 0 0] 34)).alloc (.cells #[.pointer (some ⟨tb, 0, none⟩)] 24)).alloc (.cells #[.int .i64 v] 3)).alloc (.cells #[.int .i64 a] 33)) := ((((Below.refl _ w).alloc (Nat.le_refl _) _).alloc (by simp) _).alloc (by simp; omega) _).alloc (by simp; omega) _
  have b0 := ((Boxed.new (w.alloc (.cells #[.slice none 0 0] 34)) 24 (.pointer (some ⟨tb, 0, none⟩))).alloc (.cells #[.int .i64 v] 3)).alloc (.cells #[.int .i64 a] 33)
  have b1 := (Boxed.new ((w.alloc (.cells #[.slice none 0 0] 34)).alloc (.cells #[.pointer (some ⟨tb, 0, none⟩)] 24)) 3 (.int .i64 v)).alloc (.cells #[.int .i64 a] 33)
  have b2 := Boxed.new (((w.alloc (.cells #[.slice none 0 0] 34)).alloc (.cells #[.pointer (some ⟨tb, 0, none⟩)] 24)).alloc (.cells #[.int .i64 v] 3)) 33 (.int .i64 a)
  simp only [World.size_alloc] at b0 b1 b2
  refine along_stops n hn _ _ _ tb L f (fun k => k < w.heap.size + 4 ∧ k ≠ w.heap.size) _ (fun h hk => h.block _ hk.1 hk.2) v a hL hf _ (fun k hk => by simp; omega) ⟨b0, b1, b2, by omega, by omega, by omega, ?_⟩
  exact (hT.keep fun k hk => hB0.block k hk).mono fun k hk => by omega
theorem lawAlong_nil (v a : Int) (w : World) :
    Calls Tryz.prog 13 #[.pointer none, .int .i64 v, .int .i64 a] w fun e w' => ∃ r, e = .returned r ∧ w'.ownsRow w.heap.size 3 1 r 0 [] ∧ Below w.heap.size w w' := by
  refine lawAlong_of none v a [] w (by simp) (fun n hn => ?_)
  have b0 := ((Boxed.new (w.alloc (.cells #[.slice none 0 0] 34)) 24 (.pointer none)).alloc (.cells #[.int .i64 v] 3)).alloc (.cells #[.int .i64 a] 33)
  have b1 := (Boxed.new ((w.alloc (.cells #[.slice none 0 0] 34)).alloc (.cells #[.pointer none] 24)) 3 (.int .i64 v)).alloc (.cells #[.int .i64 a] 33)
  have b2 := Boxed.new (((w.alloc (.cells #[.slice none 0 0] 34)).alloc (.cells #[.pointer none] 24)).alloc (.cells #[.int .i64 v] 3)) 33 (.int .i64 a)
  simp only [World.size_alloc] at b0 b1 b2
  exact along_stops_nil n hn _ _ _ _ v a _ b0 b1 b2
end Go.Proofs.YtopfbngdbhofkaaGreatDoor
