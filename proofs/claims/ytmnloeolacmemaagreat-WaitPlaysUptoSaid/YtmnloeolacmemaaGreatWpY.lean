/-
  The two Takes, whatever comes; the state of both sides in memory.
-/
import Derived.Test.YtmnloeolacmemaaGreatWpW
import Derived.Test.YtmnloeolacmemaaGreatWpX
import Derived.Test.YtmnloeolacmemaaGreatWpH
import Derived.Test.YtmnloeolacmemaaGreatWpK
namespace Go.Proofs.YtmnloeolacmemaaGreat
open Go.RowKit

set_option maxRecDepth 1000000 in
set_option maxHeartbeats 4000000 in
theorem rtake_bad {C : Nat → Nat} {w : World} {mb : Nat} {ev ov nv : Value} {l : List ER} {s : RSt} (h : RAt C w mb ev ov nv l s) (hop2 : ∀ i ∈ s.opn, i < s.evs.length) (hel : s.evs.length ≤ 1048576) (hnl : s.nodes.length ≤ 1048576) (hnd : (s.nodes.map (·.num)).Nodup)
    (kind num dep fr tt : Int) (name text : List UInt8) (A : Option Addr) (m c : Nat) (pc : List UInt8) (hop : s.opn.length ≤ 1048576)
    (a : Option Addr) (k cv : Nat) (vs : List (Int × Int)) (hV : VsAt w a k vs) (hk : k ≤ 1048576)
    (hg : ¬ (rcomes s ⟨kind, num, fr, tt, pc⟩ = true ∧ gfit (fun j => (rfind s.nodes j).map (·.truth)) ⟨kind, num, fr, tt, pc⟩ none vs = true)) :
    Calls Tryz.prog 12 #[.pointer (some ⟨mb, 0, none⟩), .agg (evC kind num dep name A m c text fr tt), .slice a k cv] w fun r w' => r = .returned (.tuple #[.slice none 0 0, .int .i64 6]) ∧ Below w.heap.size w w' := by
  have HB : Hid (∀ o, Below w.heap.size w (w.alloc o)) := Lib.hid fun o => (Below.refl _ _).alloc (Nat.le_refl _) o
  have hcm := fun W (hb : Below w.heap.size w W) => rcomes_any (h.below hb) kind num dep fr tt name text A m c pc hop hop2 hel
  have hft := fun W (hb : Below w.heap.size w W) => rfit_any (h.below hb) hnl hnd kind num dep fr tt name text A m c pc a k cv vs (hV.below hb) hk
  cases hc : rcomes s ⟨kind, num, fr, tt, pc⟩ with
  | false =>
    simp only [hc] at hcm
    have HCM := Lib.hid hcm
    clear hcm hft hc hg h hV
    unfold evC at *
    go_enter Tryz.func12, Tryz.ntmps12
    go_wp2_with fail
    (with_reducible refine (HCM.out _ (HB.out _)).mono ?_)
    rintro r w2 ⟨rfl, hb2⟩
    have HB2 := Lib.hid ((HB.out _).trans (hb2.mono (HB.out _).size))
    clear hb2
    go_wp2_with fail
    go_ret2
    exact ⟨rfl, HB2.out⟩
  | true =>
    have hf : gfit (fun j => (rfind s.nodes j).map (·.truth)) ⟨kind, num, fr, tt, pc⟩ none vs = false := by
      cases hf : gfit (fun j => (rfind s.nodes j).map (·.truth)) ⟨kind, num, fr, tt, pc⟩ none vs with
      | false => rfl
      | true => exact absurd ⟨hc, hf⟩ hg
    simp only [hc] at hcm
    simp only [hf] at hft
    have HCM := Lib.hid hcm
    have HFT := Lib.hid hft
    have HBX : Hid (∀ W, Below (w.alloc (.cells (evC kind num dep name A m c text fr tt) 36)).heap.size (w.alloc (.cells (evC kind num dep name A m c text fr tt) 36)) W → W.heap[w.heap.size]? = some (.cells (evC kind num dep name A m c text fr tt) 36 (0, 0))) := Lib.hid fun W hb => (hb.block _ (by simp)).trans (heap_alloc_new w _)
    clear hcm hft hc hf hg h hV
    unfold evC at *
    go_enter Tryz.func12, Tryz.ntmps12
    go_wp2_with fail
    (with_reducible refine (HCM.out _ (HB.out _)).mono ?_)
    rintro r w2 ⟨rfl, hb2⟩
    obtain ⟨q0, q1, q2, q3, q4, q5, q6, q7⟩ := box_cells (HBX.out _ hb2)
    have HB2 := Lib.hid ((HB.out _).trans (hb2.mono (HB.out _).size))
    clear hb2
    go_wp2_with fail
    (with_reducible refine (HFT.out _ HB2.out).mono ?_)
    rintro r w3 ⟨rfl, hb3⟩
    have HB3 := Lib.hid (HB2.out.trans (hb3.mono HB2.out.size))
    clear hb3
    go_wp2_with fail
    go_ret2
    exact ⟨rfl, HB3.out⟩
theorem gfit_take {tr : Int → Option Int} {e : WEv} : ∀ (l : List (Int × Int)) (p : Option Int) (i : Nat), gfit tr e p l = true → gfit tr e p (l.take i) = true := by
  intro l
  induction l with
  | nil => intro p i h; simpa using h
  | cons v l ih =>
    intro p i h
    cases i with
    | zero => rfl
    | succ i =>
      simp only [List.take_succ_cons, gfit, Bool.and_eq_true] at h ⊢
      exact ⟨h.1, ih _ i h.2⟩
/-- the program's Take, whatever comes -/
theorem take_any {C : Nat → Nat} {w : World} {wb tb mb : Nat} {fp : Int → Option Nat} {ov lv : Value} {s : WSt} {m : RSt} {first front n : Nat} (h : WAt C w wb tb mb fp ov lv s first front n) (sim : WSim s m) (hfr : WFront m front)
    (e : Ev) (A : Option Addr) (mm c : Nat) (hA : AttrsAt w A mm e.ats) (hmc : mm ≤ c) (hwt : wtE e ≤ 1048576) (hwe : Wf e.num) (hsm : s.all.length + (evOut e).length ≤ 1099511627776)
    (a : Option Addr) (k cv : Nat) (vs : List (Int × Int)) (hV : VsAt w a k vs) (hVc : ∀ ad, a = some ad → C ad.block = 0) (hwf : ∀ v ∈ vs, Wf v.1)
    (hop : s.opn.length + 1 ≤ 1048576) (hor : s.order.length + k ≤ 1048576) (hn : n + k ≤ 1048576) (hnx : 0 ≤ s.next ∧ s.next + 1 ≤ 1048576) :
    ∃ front', WFront (rtake m (wOf e) vs).2 front' ∧ Calls Tryz.prog 7 #[.pointer (some ⟨wb, 0, none⟩), .agg (evC e.kind e.num e.dep e.name A mm c e.text e.fr e.tt), .slice a k cv] w fun r w' =>
      RetTake C w wb tb mb n k (wtake s (wOf e) vs).1.1 (wtake s (wOf e) vs).1.2 (wtake s (wOf e) vs).2 front' r w' := by
  by_cases hg : wcomes s (wOf e) = true ∧ gfit (fun j => (s.nodes j).map (·.truth)) (wOf e) none vs = true
  · exact ⟨_, take_front sim (wOf e) vs hfr hg, take_ok h e A mm c hA hmc hwt hwe hsm a k cv vs hV hVc hwf hop hor hn hnx hg.1 hg.2 (take_cuts sim (wOf e) vs hfr hg)⟩
  · have hw : wtake s (wOf e) vs = (([], 6), s) := by unfold wtake; rw [if_neg hg]
    have hr : rtake m (wOf e) vs = (([], 6), m) := by
      unfold rtake
      rw [if_neg]
      intro h2
      apply hg
      have hfe : (fun n => (s.nodes n).map (·.truth)) = (fun n => (rfind m.nodes n).map (·.truth)) := funext sim.nodes.truth
      rw [hfe, sim.comes]
      exact h2
    refine ⟨front, by rw [hr]; exact hfr, ?_⟩
    rw [hw]
    refine (take_bad h e.kind e.num e.dep e.fr e.tt e.name e.text A mm c (evOut e) (by omega) a k cv vs hV (by omega) hwf hg).mono ?_
    rintro r w' ⟨rfl, hb⟩
    exact ⟨C, fp, ov, lv, first, none, 0, n, rfl, h.below hb, ⟨World.ownsRow_nil _ _ _ _, fun k hk => by cases hk⟩, Mv.below hb, Paint.refl h.top hb.size, by omega⟩
/-- the answer's Take, whatever comes -/
theorem rtake_any {C : Nat → Nat} {w : World} {mb : Nat} {ev ov nv : Value} {l : List ER} {s : WSt} {m : RSt} (h : RAt C w mb ev ov nv l m) (sim : WSim s m)
    (e : Ev) (A : Option Addr) (mm c : Nat) (hA : AttrsAt w A mm e.ats) (hmc : mm ≤ c) (hAc : e.ats ≠ [] → ∀ ad, A = some ad → C ad.block = 0) (hwt : wtE e ≤ 1048576)
    (a : Option Addr) (k cv : Nat) (vs : List (Int × Int)) (hV : VsAt w a k vs) (hVc : vs ≠ [] → ∀ ad, a = some ad → C ad.block = 0)
    (hel : m.evs.length + 1 ≤ 1048576) (hopl : m.opn.length + 1 ≤ 1048576) (hop : ∀ i ∈ m.opn, i < m.evs.length) (hnl : m.nodes.length + k ≤ 1048576) (hnx : 0 ≤ m.next ∧ m.next + 1 ≤ 1048576) (hok : ∀ r ∈ l, EvOk r.e) :
    ∃ l', (l' = l ∧ (rtake m (wOf e) vs).2 = m ∨ l' = l ++ [⟨e, A, mm, c⟩] ∧ EvOk e) ∧ Calls Tryz.prog 12 #[.pointer (some ⟨mb, 0, none⟩), .agg (evC e.kind e.num e.dep e.name A mm c e.text e.fr e.tt), .slice a k cv] w fun r w' =>
      RetRTake C w mb l' (rtake m (wOf e) vs).1.1 (rtake m (wOf e) vs).1.2 (rtake m (wOf e) vs).2 r w' := by
  have hnd0 : (m.nodes.map (·.num)).Nodup := sim.nodes.nums
  have hfe : (fun n => (s.nodes n).map (·.truth)) = (fun n => (rfind m.nodes n).map (·.truth)) := funext sim.nodes.truth
  by_cases hg : rcomes m (wOf e) = true ∧ gfit (fun j => (rfind m.nodes j).map (·.truth)) (wOf e) none vs = true
  · have hgw : wcomes s (wOf e) = true ∧ gfit (fun j => (s.nodes j).map (·.truth)) (wOf e) none vs = true := by rw [hfe, sim.comes]; exact hg
    have hmid := fun i => take_mid sim (wOf e) (vs.take i) ⟨hgw.1, gfit_take vs none i hgw.2⟩
    have hoke : EvOk e := ⟨by rcases rcomes_kind hg.1 with h0 | h1 | ⟨h2, _⟩; exact .inl h0; exact .inr (.inl h1); exact .inr (.inr h2), hwt⟩
    refine ⟨_, .inr ⟨rfl, hoke⟩, rtake_ok h e A mm c hA hmc hAc a k cv vs hV hVc hel hopl hop hnl hnx hg.1 hg.2 hnd0 (fun i _ => (hmid i).nums) (fun r hr => ?_) hok hoke⟩
    have h1 := take_mid sim (wOf e) vs hgw
    have h2 := h1.good r hr
    have h3 := h2.bgn
    have h4 := h2.fin
    simp only [List.length_append, List.length_singleton] at h3 h4
    exact ⟨h3, h4, h2.ord⟩
  · have hr : rtake m (wOf e) vs = (([], 6), m) := by unfold rtake; rw [if_neg hg]
    refine ⟨l, .inl ⟨rfl, by rw [hr]⟩, ?_⟩
    rw [hr]
    refine (rtake_bad h hop (by omega) (by omega) hnd0 e.kind e.num e.dep e.fr e.tt e.name e.text A mm c (evOut e) (by omega) a k cv vs hV (by omega) hg).mono ?_
    rintro r w' ⟨rfl, hb⟩
    exact ⟨C, ev, ov, nv, none, 0, rfl, h.below hb, ⟨QRow.nil _ _ _ _, fun k hk => by cases hk⟩, Mv.below hb, Paint.refl h.top hb.size⟩
end Go.Proofs.YtmnloeolacmemaaGreat

/-
  The cells of attributes.
-/
namespace Go.Proofs.YtmnloeolacmemaaGreat
open Go.RowKit

theorem infoAttr : (Tryz.prog.info? 63).map (fun i => (i.zero, i.size, i.bytes)) = some (some (.agg #[.string ⟨#[]⟩, .string ⟨#[]⟩]), 2, 32) := by kernel_rfl
/-- the attributes' cells -/
def atC (ats : List (List UInt8 × List UInt8)) : List Value := ats.flatMap fun p => [.string (strL p.1), .string (strL p.2)]
theorem atC_length (ats : List (List UInt8 × List UInt8)) : (atC ats).length = ats.length * 2 := by
  induction ats with
  | nil => rfl
  | cons p r ih => unfold atC at *; simp only [List.flatMap_cons, List.length_append, List.length_cons, List.length_nil, ih]; omega
theorem atC_get : ∀ (ats : List (List UInt8 × List UInt8)) (i : Nat) (h : i < ats.length), (atC ats)[i * 2]? = some (.string (strL ats[i].1)) ∧ (atC ats)[i * 2 + 1]? = some (.string (strL ats[i].2))
  | p :: r, 0, _ => ⟨rfl, rfl⟩
  | p :: r, i + 1, h => by
    have := atC_get r i (by simpa using h)
    have e : atC (p :: r) = .string (strL p.1) :: .string (strL p.2) :: atC r := rfl
    rw [e, show (i + 1) * 2 = i * 2 + 1 + 1 by omega]
    simpa using this
theorem atC_one (ats : List (List UInt8 × List UInt8)) : ∀ u ∈ atC ats, u.oneCell' = true := by
  intro u hu
  obtain ⟨p, _, h⟩ := List.mem_flatMap.1 hu
  simp only [List.mem_cons, List.not_mem_nil, or_false] at h
  rcases h with rfl | rfl <;> rfl
theorem add_cell (b o j : Nat) : (⟨b, o, none⟩ : Addr).add j = ⟨b, o + j, none⟩ := by
  unfold Addr.add
  split
  · rename_i h; subst h; rfl
  · rfl
theorem AttrsAt.cells {w : World} {A : Option Addr} {m : Nat} {ats : List (List UInt8 × List UInt8)} (h : AttrsAt w A m ats) : ∀ ad, A = some ad → ∀ j u, (atC ats)[j]? = some u → w.cell? (ad.add j) = some u := by
  intro ad hA j u hj
  have hlt := (List.getElem?_eq_some_iff.1 hj).1
  rw [atC_length] at hlt
  obtain ⟨i, hij⟩ : ∃ i, j = i * 2 ∨ j = i * 2 + 1 := ⟨j / 2, by omega⟩
  have hi : i < ats.length := by omega
  obtain ⟨b, o, e, _, h1, h2⟩ := h.2 _ hi
  rw [hA] at e
  injection e with e
  subst e
  obtain ⟨g1, g2⟩ := atC_get ats _ hi
  rw [add_cell]
  rcases hij with rfl | rfl
  · rw [h1, ← g1, hj]
  · rw [← Nat.add_assoc, h2, ← g2, hj]
theorem AttrsAt.keep {w w' : World} {A : Option Addr} {m : Nat} {ats : List (List UInt8 × List UInt8)} (h : AttrsAt w A m ats) (hs : w.heap.size ≤ w'.heap.size) (hk : ∀ b o, A = some ⟨b, o, none⟩ → b < w.heap.size → w'.heap[b]? = w.heap[b]?) : AttrsAt w' A m ats :=
  ⟨h.1, fun i hi => by
    obtain ⟨b, o, e, hlt, h1, h2⟩ := h.2 i hi
    have hb := hk b o e hlt
    exact ⟨b, o, e, Nat.lt_of_lt_of_le hlt hs, by rw [← h1]; simp only [World.cell?, hb], by rw [← h2]; simp only [World.cell?, hb]⟩⟩
theorem AttrsAt.none {w : World} {A : Option Addr} {m : Nat} {ats : List (List UInt8 × List UInt8)} (h : AttrsAt w A m ats) (hA : A = none) : m = 0 := by
  rw [h.1]
  cases ats with
  | nil => rfl
  | cons p r => obtain ⟨b, o, e, _⟩ := h.2 0 (by simp); rw [hA] at e; cases e
/-- an owned row of attributes -/
theorem own_attrs {w : World} {base m : Nat} {e : TypeId} {v : Value} {ats : List (List UInt8 × List UInt8)} (h : w.ownsRow base e 2 v m (atC ats)) :
    ∃ a c, v = .slice a m c ∧ m ≤ c ∧ AttrsAt w a m ats ∧ ∀ ad, a = some ad → base ≤ ad.block := by
  have hm : m = ats.length := by have := h.1; rw [atC_length] at this; omega
  obtain ⟨a, c, rfl, h1, h2, h3⟩ := own_slice h
  refine ⟨a, c, rfl, h1, ⟨hm, fun i hi => ?_⟩, fun ad ha => ?_⟩
  · cases a with
    | none => have := h2 rfl; omega
    | some ad =>
      obtain ⟨g, rfl, hg, hl, _, hc⟩ := h3 _ rfl
      obtain ⟨g1, g2⟩ := atC_get ats i hi
      exact ⟨g, 0, rfl, hl, by rw [Nat.zero_add]; exact hc _ _ g1, by rw [Nat.zero_add]; exact hc _ _ g2⟩
  · obtain ⟨g, rfl, hg, _⟩ := h3 _ ha
    exact hg
theorem results_cell1 {P : Program} {fn : Func} {p : Tmp} {ty : TypeId} (h : fn.results = #[.cell p ty]) (tmps : Array Value) (w : World) :
    (results fn tmps).run P w = ((asAddr (tmps.getD p undef)).run P w).andThen fun a w₁ => (loadVar ty a).run P w₁ := by
  simp only [results, h]
  simp [Sem.run_bind, Result.andThen]
end Go.Proofs.YtmnloeolacmemaaGreat

/-
  Both sides of the law in memory; what a call of one leaves; rows that are written over.
-/
namespace Go.Proofs.YtmnloeolacmemaaGreat
open Go.RowKit

/-! how long the lists may be -/
theorem tellW_len (cut : Nat → Nat → List UInt8) : ∀ (o : List Int) (f : Int → Option WN), (tellW cut f o).1.length + (tellW cut f o).2.2.length ≤ o.length := by
  intro o
  induction o with
  | nil => intro f; simp [tellW]
  | cons k o ih =>
    intro f
    simp only [tellW]
    split
    · have := ih f; simp only [List.length_cons]; omega
    · split
      · have := ih (wupd f k none); simp only [List.length_cons]; omega
      · simp
theorem verds_len (e : WEv) (b n : Nat) : ∀ (vs : List (Int × Int)) (st : (Int → Option WN) × List Int), (vs.foldl (wverd e b n) st).2.length ≤ st.2.length + vs.length := by
  intro vs
  induction vs with
  | nil => intro st; simp
  | cons v vs ih =>
    intro st
    rw [List.foldl_cons]
    refine Nat.le_trans (ih _) ?_
    have : (wverd e b n st v).2.length ≤ st.2.length + 1 := by
      unfold wverd
      split
      · simp
      · split
        · simp
        · split <;> simp
    simp only [List.length_cons]; omega
theorem wtake_len (s : WSt) (e : WEv) (vs : List (Int × Int)) : (wtake s e vs).1.1.length + (wtake s e vs).2.order.length ≤ s.order.length + vs.length ∧ (wtake s e vs).2.opn.length ≤ s.opn.length + 1 ∧ (wtake s e vs).2.next ≤ s.next + 1 ∧ (wtake s e vs).2.all.length ≤ s.all.length + e.piece.length := by
  unfold wtake
  split
  · refine ⟨?_, ?_, ?_, ?_⟩
    · refine Nat.le_trans (tellW_len _ _ _) ?_
      exact verds_len _ _ _ vs (wwhole e (s.all ++ e.piece).length s.nodes, s.order)
    · simp only
      split
      · simp; omega
      · split
        · simp
        · omega
    · simp only
      split <;> omega
    · simp
  · refine ⟨?_, ?_, ?_, ?_⟩ <;> simp <;> omega
theorem live_len (f : Int → Option WN) (o : List Int) : (live f o).length ≤ o.length := by
  unfold live; exact List.length_filterMap_le _ _
theorem WSim.nodesLen {s : WSt} {m : RSt} (h : WSim s m) : m.nodes.length ≤ s.order.length := by
  have h1 := congrArg List.length h.nodes.live
  rw [List.length_map] at h1
  have := live_len s.nodes s.order
  omega
theorem WSim.opnLen {s : WSt} {m : RSt} (h : WSim s m) : m.opn.length = s.opn.length := by
  have h1 := congrArg List.length h.opn
  simpa using h1.symm
theorem WSim.opnLt {s : WSt} {m : RSt} (h : WSim s m) : ∀ i ∈ m.opn, i < m.evs.length := by
  intro i hi
  have h1 : (m.evs[i]?).map (fun x => (x.num, x.frm)) ∈ m.opn.map (fun i => (m.evs[i]?).map (fun x => (x.num, x.frm))) := List.mem_map.2 ⟨i, hi, rfl⟩
  rw [← h.opn] at h1
  obtain ⟨x, _, hx⟩ := List.mem_map.1 h1
  cases he : m.evs[i]? with
  | none => rw [he] at hx; cases hx
  | some y => exact (List.getElem?_eq_some_iff.1 he).1
theorem wf_small {x : Int} (h0 : 0 ≤ x) (h : x ≤ 1048576) : Wf x := by
  unfold Wf
  refine WalkArith.wf_i64 ?_; omega
theorem own_cellD {w : World} {base g n cap size : Nat} {e : TypeId} {xs : List Value} (h : w.ownsRow base e size (.slice (some ⟨g, 0, none⟩) n cap) n xs) (j : Nat) (hj : j < n * size) : ∃ x, w.cell? ⟨g, j, none⟩ = some x := by
  have hl := h.1
  exact ⟨xs[j], by rw [h.cellAt j hj, List.getElem?_eq_getElem (by omega)]⟩
/-! the verdicts' cells -/
def vsV (l : List (Int × Int)) : List Value := l.flatMap fun v => [.int .i64 v.1, .int .i64 v.2]
theorem vsV_length (l : List (Int × Int)) : (vsV l).length = l.length * 2 := by
  induction l with
  | nil => rfl
  | cons p r ih => unfold vsV at *; simp only [List.flatMap_cons, List.length_append, List.length_cons, List.length_nil, ih]; omega
theorem vsV_get : ∀ (l : List (Int × Int)) (i : Nat) (h : i < l.length), (vsV l)[i * 2]? = some (.int .i64 l[i].1) ∧ (vsV l)[i * 2 + 1]? = some (.int .i64 l[i].2)
  | p :: r, 0, _ => ⟨rfl, rfl⟩
  | p :: r, i + 1, h => by
    have := vsV_get r i (by simpa using h)
    have e : vsV (p :: r) = .int .i64 p.1 :: .int .i64 p.2 :: vsV r := rfl
    rw [e, show (i + 1) * 2 = i * 2 + 1 + 1 by omega]
    simpa using this
theorem vsV_one (l : List (Int × Int)) : ∀ u ∈ vsV l, u.oneCell' = true := by
  intro u hu
  obtain ⟨p, _, h⟩ := List.mem_flatMap.1 hu
  simp only [List.mem_cons, List.not_mem_nil, or_false] at h
  rcases h with rfl | rfl <;> rfl
theorem VsAt.cells {w : World} {A : Option Addr} {m : Nat} {l : List (Int × Int)} (h : VsAt w A m l) : ∀ ad, A = some ad → ∀ j u, (vsV l)[j]? = some u → w.cell? (ad.add j) = some u := by
  intro ad hA j u hj
  have hlt := (List.getElem?_eq_some_iff.1 hj).1
  rw [vsV_length] at hlt
  obtain ⟨i, hij⟩ : ∃ i, j = i * 2 ∨ j = i * 2 + 1 := ⟨j / 2, by omega⟩
  have hi : i < l.length := by omega
  obtain ⟨b, o, e, _, h1, h2⟩ := h.cell _ hi
  rw [hA] at e
  injection e with e
  subst e
  obtain ⟨g1, g2⟩ := vsV_get l _ hi
  rw [add_cell]
  rcases hij with rfl | rfl
  · rw [h1, ← g1, hj]
  · rw [← Nat.add_assoc, h2, ← g2, hj]
theorem VsAt.none {w : World} {A : Option Addr} {m : Nat} {l : List (Int × Int)} (h : VsAt w A m l) (hA : A = none) : m = 0 := by
  rw [h.len]
  cases l with
  | nil => rfl
  | cons p r => obtain ⟨b, o, e, _⟩ := h.cell 0 (by simp); rw [hA] at e; cases e
/-- the first of an owned row are the verdicts -/
theorem own_vs {w : World} {base n c : Nat} {e : TypeId} {g : Nat} {l : List (Int × Int)} {ys : List Value} (h : w.ownsRow base e 2 (.slice (some ⟨g, 0, none⟩) n c) n (vsV l ++ ys)) : VsAt w (some ⟨g, 0, none⟩) l.length l := by
  refine ⟨rfl, fun i hi => ?_⟩
  obtain ⟨a', c', e1, h1, h2, h3⟩ := own_slice h
  injection e1 with e1 _ _
  subst e1
  obtain ⟨g', e2, hg, hl, _, hc⟩ := h3 _ rfl
  cases e2
  obtain ⟨g1, g2⟩ := vsV_get l i hi
  have hlen := vsV_length l
  exact ⟨g, 0, rfl, hl, by rw [Nat.zero_add]; exact hc _ _ (by rw [List.getElem?_append_left (by omega)]; exact g1), by rw [Nat.zero_add]; exact hc _ _ (by rw [List.getElem?_append_left (by omega)]; exact g2)⟩
theorem own_its {w : World} {base n c : Nat} {e : TypeId} {a : Option Addr} {l : List (Int × List UInt8)} (h : w.ownsRow base e 2 (.slice a n c) n (itemsV l)) (hn : n = l.length) : ItAt w a n l := by
  refine ⟨hn, fun i hi => ?_⟩
  obtain ⟨a', c', e1, h1, h2, h3⟩ := own_slice h
  injection e1 with e1 _ _
  subst e1
  cases a with
  | none => have := h2 rfl; omega
  | some ad =>
    obtain ⟨g, rfl, hg, hl, _, hc⟩ := h3 _ rfl
    obtain ⟨g1, g2⟩ := itemsV_at l i hi
    exact ⟨g, 0, rfl, hl, by rw [Nat.zero_add]; exact hc _ _ g1, by rw [Nat.zero_add]; exact hc _ _ g2⟩
/-! other colours for what has none -/
def recol (C : Nat → Nat) (v : Value) (c : Nat) : Nat → Nat := fun k => if v.ownBlock = some k then c else C k
theorem recol_other {C : Nat → Nat} {v : Value} {c k : Nat} (h : v.ownBlock ≠ some k) : recol C v c k = C k := by unfold recol; rw [if_neg h]
theorem recol_self {C : Nat → Nat} {v : Value} {c k : Nat} (h : v.ownBlock = some k) : recol C v c k = c := by unfold recol; rw [if_pos h]
theorem WAt.colours {C C' : Nat → Nat} {w : World} {wb tb mb : Nat} {fp : Int → Option Nat} {ov lv : Value} {s : WSt} {first front n : Nat} (h : WAt C w wb tb mb fp ov lv s first front n) (hc : ∀ k, C k ≠ 0 → C' k = C k) (ht : ∀ k, w.heap.size ≤ k → C' k = 0) : WAt C' w wb tb mb fp ov lv s first front n := by
  have e : ∀ {k c : Nat}, C k = c → c ≠ 0 → C' k = c := fun {k c} h0 h1 => (hc k (by omega)).trans h0
  refine ⟨ht, h.blk, e h.cw (by decide), h.tp, e h.ct (by decide), fun k hk => e (h.crow k hk) (by decide), h.map, e h.cm (by decide), h.ord, fun k hk => e (h.co k hk) (by decide), h.opn, fun k hk => e (h.cl k hk) (by decide), fun k x hx => ?_, h.non, h.inj, h.wfo⟩
  obtain ⟨b, b1, b2, b3⟩ := h.nds k x hx
  exact ⟨b, b1, e b2 (by decide), b3⟩
theorem RAt.colours {C C' : Nat → Nat} {w : World} {mb : Nat} {ev ov nv : Value} {l : List ER} {m : RSt} (h : RAt C w mb ev ov nv l m) (hc : ∀ k, C k ≠ 0 → C' k = C k) (ht : ∀ k, w.heap.size ≤ k → C' k = 0) (ha : ∀ r ∈ l, r.e.ats ≠ [] → ∀ ad, r.A = some ad → C' ad.block = 0) : RAt C' w mb ev ov nv l m := by
  have e : ∀ {k c : Nat}, C k = c → c ≠ 0 → C' k = c := fun {k c} h0 h1 => (hc k (by omega)).trans h0
  exact ⟨ht, h.blk, e h.cm (by decide), h.evs, fun k hk => e (h.ce k hk) (by decide), h.opn, fun k hk => e (h.co k hk) (by decide), h.nds, fun k hk => e (h.cn k hk) (by decide), fun r hr => ⟨(h.ats r hr).1, (h.ats r hr).2.1, ha r hr⟩, h.evm⟩
/-- both sides in memory -/
structure BothAt (S0 : Nat) (w0 : World) (wb mb q : Nat) (C : Nat → Nat) (w : World) (tb pm : Nat) (fp : Int → Option Nat) (ov lv : Value) (first front n : Nat) (ev rov nv : Value) (l : List ER) (s : WSt) (m : RSt) : Prop where
  W : WAt C w wb tb pm fp ov lv s first front n
  R : RAt C w mb ev rov nv l m
  sim : WSim s m
  fr : WFront m front
  ats : ∀ r ∈ l, r.e.ats ≠ [] → ∀ ad, r.A = some ad → ad.block < S0
  ok : ∀ r ∈ l, EvOk r.e
  wf : ∀ r ∈ l, Wf r.e.num
  nam : ∀ r ∈ l, r.e.name.length ≤ q
  len : l.length ≤ q
  nn : n ≤ q
  ord : s.order.length ≤ q
  opn : s.opn.length ≤ q
  nx : s.next ≤ q
  all : s.all.length ≤ 600000 * q
  c0 : ∀ k, k < S0 → C k = 0
  bel : Below S0 w0 w
  sz : S0 ≤ w0.heap.size
section
variable {S0 : Nat} {w0 : World} {wb mb q : Nat} {C : Nat → Nat} {w : World} {tb pm : Nat} {fp : Int → Option Nat} {ov lv : Value} {first front n : Nat} {ev rov nv : Value} {l : List ER} {s : WSt} {m : RSt}
theorem BothAt.size (h : BothAt S0 w0 wb mb q C w tb pm fp ov lv first front n ev rov nv l s m) : S0 ≤ w.heap.size := Nat.le_trans h.sz h.bel.size
/-- only blocks of other colours have turned -/
theorem BothAt.turn (h : BothAt S0 w0 wb mb q C w tb pm fp ov lv first front n ev rov nv l s m) {lo hi : Nat} {w' : World} (hm : Mv C lo hi w w') (hlo : 11 ≤ lo) : BothAt S0 w0 wb mb q C w' tb pm fp ov lv first front n ev rov nv l s m :=
  { h with
    W := h.W.keep (Paint.refl h.W.top hm.size) hm.size (fun k hk h1 h2 => hm.block k hk (by omega))
    R := h.R.keep (Paint.refl h.R.top hm.size) hm.size (fun k hk hc => hm.block k hk (by omega))
    bel := ⟨hm.os.trans h.bel.os, hm.tape.trans h.bel.tape, hm.output.trans h.bel.output, Nat.le_trans h.bel.size hm.size, fun k hk => (hm.block k (Nat.lt_of_lt_of_le hk h.size) (by rw [h.c0 k hk]; omega)).trans (h.bel.block k hk)⟩ }
theorem BothAt.below (h : BothAt S0 w0 wb mb q C w tb pm fp ov lv first front n ev rov nv l s m) {w' : World} (hb : Below w.heap.size w w') : BothAt S0 w0 wb mb q C w' tb pm fp ov lv first front n ev rov nv l s m := h.turn (Mv.below (lo := 11) (hi := 11) hb) (Nat.le_refl _)
theorem BothAt.recol (h : BothAt S0 w0 wb mb q C w tb pm fp ov lv first front n ev rov nv l s m) (v : Value) (c : Nat) (hv : ∀ k, v.ownBlock = some k → C k = 0 ∧ S0 ≤ k ∧ k < w.heap.size) : BothAt S0 w0 wb mb q (recol C v c) w tb pm fp ov lv first front n ev rov nv l s m := by
  have h1 : ∀ k, C k ≠ 0 → _root_.Go.Proofs.YtmnloeolacmemaaGreat.recol C v c k = C k := fun k hk => recol_other (fun e => hk (hv k e).1)
  have h2 : ∀ k, w.heap.size ≤ k → _root_.Go.Proofs.YtmnloeolacmemaaGreat.recol C v c k = 0 := fun k hk => (recol_other (fun e => by have := (hv k e).2.2; omega)).trans (h.W.top k hk)
  have h3 : ∀ k, k < S0 → _root_.Go.Proofs.YtmnloeolacmemaaGreat.recol C v c k = 0 := fun k hk => (recol_other (fun e => by have := (hv k e).2.1; omega)).trans (h.c0 k hk)
  exact { h with
    W := h.W.colours h1 h2
    R := h.R.colours h1 h2 (fun r hr hne ad ha => h3 _ (h.ats r hr hne ad ha))
    c0 := h3 }
/-- behind Held -/
theorem BothAt.held (h : BothAt S0 w0 wb mb q C w tb pm fp ov lv first front n ev rov nv l s m) {ov' : Value} {w' : World} (hW : WAt C w' wb tb pm fp ov' lv { s with order := wfirst s.nodes s.order } first front n) (hm : Mv C 1 7 w w') : BothAt S0 w0 wb mb q C w' tb pm fp ov' lv first front n ev rov nv l { s with order := wfirst s.nodes s.order } m :=
  { h with
    W := hW
    R := h.R.mv hm (Paint.refl h.R.top hm.size)
    sim := h.sim.first
    ord := Nat.le_trans (wfirst_sub s.nodes s.order).length_le h.ord
    bel := ⟨hm.os.trans h.bel.os, hm.tape.trans h.bel.tape, hm.output.trans h.bel.output, Nat.le_trans h.bel.size hm.size, fun k hk => (hm.block k (Nat.lt_of_lt_of_le hk h.size) (by rw [h.c0 k hk]; omega)).trans (h.bel.block k hk)⟩ }
/-- behind both Takes -/
theorem BothAt.takes (h : BothAt S0 w0 wb mb q C w tb pm fp ov lv first front n ev rov nv l s m) (e : Ev) (A : Option Addr) (mm c : Nat) (vs : List (Int × Int)) (d : Nat) (hd : vs.length + 1 ≤ d)
    {C1 C2 : Nat → Nat} {w1 w2 : World} {fp' : Int → Option Nat} {ov' lv' ev' rov' nv' : Value} {first' front' n' : Nat} {l' : List ER}
    (hW : WAt C1 w1 wb tb pm fp' ov' lv' (wtake s (wOf e) vs).2 first' front' n') (hm1 : Mv C 1 7 w w1) (hp1 : Paint C C1 w w1)
    (hR : RAt C2 w2 mb ev' rov' nv' l' (rtake m (wOf e) vs).2) (hm2 : Mv C1 7 11 w1 w2) (hp2 : Paint C1 C2 w1 w2)
    (hf : WFront (rtake m (wOf e) vs).2 front') (hl : l' = l ∧ (rtake m (wOf e) vs).2 = m ∨ l' = l ++ [⟨e, A, mm, c⟩] ∧ EvOk e) (hn' : n' ≤ n + vs.length)
    (hAs : e.ats ≠ [] → ∀ ad, A = some ad → ad.block < S0) (hwe : Wf e.num) (hnm : e.name.length ≤ q + d) (hout : (evOut e).length ≤ 600000 * d) :
    BothAt S0 w0 wb mb (q + d) C2 w2 tb pm fp' ov' lv' first' front' n' ev' rov' nv' l' (wtake s (wOf e) vs).2 (rtake m (wOf e) vs).2 := by
  obtain ⟨b1, b2, b3, b4⟩ := wtake_len s (wOf e) vs
  have g1 := h.len
  have g2 := h.nn
  have g3 := h.ord
  have g4 := h.opn
  have g5 := h.nx
  have g6 := h.all
  have hb4 : (wtake s (wOf e) vs).2.all.length ≤ s.all.length + (evOut e).length := b4
  have hc1 : ∀ k, k < S0 → C1 k = 0 := fun k hk => (hp1.old k (Nat.lt_of_lt_of_le hk h.size)).trans (h.c0 k hk)
  have hs1 : S0 ≤ w1.heap.size := Nat.le_trans h.size hm1.size
  have hbl : Below S0 w0 w1 := ⟨hm1.os.trans h.bel.os, hm1.tape.trans h.bel.tape, hm1.output.trans h.bel.output, Nat.le_trans h.bel.size hm1.size, fun k hk => (hm1.block k (Nat.lt_of_lt_of_le hk h.size) (by rw [h.c0 k hk]; omega)).trans (h.bel.block k hk)⟩
  have hmem : ∀ r ∈ l', r ∈ l ∨ r = ⟨e, A, mm, c⟩ ∧ EvOk e := fun r hr => by
    rcases hl with ⟨rfl, _⟩ | ⟨rfl, ho⟩
    · exact .inl hr
    · rcases List.mem_append.1 hr with hr | hr
      · exact .inl hr
      · exact .inr ⟨List.mem_singleton.1 hr, ho⟩
  refine { W := hW.keep hp2 hm2.size (fun k hk k1 k2 => hm2.block k hk (by omega)), R := hR, sim := (take_same h.sim (wOf e) vs).2, fr := hf, ats := fun r hr => ?_, ok := fun r hr => ?_, wf := fun r hr => ?_, nam := fun r hr => ?_, len := ?_, nn := by omega, ord := by omega, opn := by omega, nx := by omega, all := by omega, c0 := fun k hk => (hp2.old k (Nat.lt_of_lt_of_le hk hs1)).trans (hc1 k hk), bel := ?_, sz := h.sz }
  · rcases hmem r hr with h1 | ⟨rfl, _⟩
    · exact h.ats r h1
    · exact hAs
  · rcases hmem r hr with h1 | ⟨rfl, ho⟩
    · exact h.ok r h1
    · exact ho
  · rcases hmem r hr with h1 | ⟨rfl, _⟩
    · exact h.wf r h1
    · exact hwe
  · rcases hmem r hr with h1 | ⟨rfl, _⟩
    · have := h.nam r h1; omega
    · exact hnm
  · rcases hl with ⟨rfl, _⟩ | ⟨rfl, _⟩
    · omega
    · simp; omega
  · exact ⟨hm2.os.trans hbl.os, hm2.tape.trans hbl.tape, hm2.output.trans hbl.output, Nat.le_trans hbl.size hm2.size, fun k hk => (hm2.block k (Nat.lt_of_lt_of_le hk hs1) (by rw [hc1 k hk]; omega)).trans (hbl.block k hk)⟩
end
/-! rows that are written over -/
/-- a row of N cells in blocks of the colour c: from the cell j0 on it is as it was -/
structure SpAt (C : Nat → Nat) (c : Nat) (w0 w : World) (a : Option Addr) (N j0 : Nat) : Prop where
  mv : Mv C c (c + 1) w0 w
  size : w.heap.size = w0.heap.size
  ad : ∀ ad, a = some ad → ∃ g, ad = ⟨g, 0, none⟩ ∧ C g = c
  keep : ∀ g, a = some ⟨g, 0, none⟩ → ∀ j, j0 ≤ j → w.cell? ⟨g, j, none⟩ = w0.cell? ⟨g, j, none⟩
  room : ∀ g, a = some ⟨g, 0, none⟩ → ∀ j, j < N → ∃ u, w.cell? ⟨g, j, none⟩ = some u
  free : ∀ g, a = some ⟨g, 0, none⟩ → ∀ j, w.frozen? ⟨g, j, none⟩ = false
theorem SpAt.start {C : Nat → Nat} {c : Nat} {w : World} {base m cap sz : Nat} {e : TypeId} {a : Option Addr} {xs : List Value} (h : w.ownsRow base e sz (.slice a m cap) m xs) (hc : ∀ k, (Value.slice a m cap).ownBlock = some k → C k = c) : SpAt C c w w a (m * sz) 0 := by
  refine ⟨Mv.refl _ _ _ _, rfl, fun ad ha => ?_, fun _ _ _ _ => rfl, fun g ha j hj => ?_, fun g ha j => ?_⟩
  · obtain ⟨a', c', e1, h1, h2, h3⟩ := own_slice h
    injection e1 with e1 _ _
    subst e1
    obtain ⟨g, e2, _⟩ := h3 _ ha
    subst e2
    exact ⟨g, rfl, hc g (by rw [ha]; rfl)⟩
  · subst ha; exact own_cellD h j hj
  · subst ha; exact h.frozenAt j
theorem SpAt.set {C : Nat → Nat} {c : Nat} {w0 w : World} {a : Option Addr} {N j0 g : Nat} (h : SpAt C c w0 w a N j0) (ha : a = some ⟨g, 0, none⟩) (j : Nat) (v : Value) (hj : j < j0) : SpAt C c w0 (w.setCell ⟨g, j, none⟩ v) a N j0 := by
  have hcg : C g = c := by obtain ⟨g', e, hc⟩ := h.ad _ ha; cases e; exact hc
  subst ha
  refine ⟨h.mv.set (by omega) j v, by simp [World.setCell]; exact h.size, h.ad, fun g2 e j2 hj2 => ?_, fun g2 e j2 hj2 => ?_, fun g2 e j2 => ?_⟩
  · cases e
    rw [World.cell?_setCell_other _ _ _ _ (fun e => by injection e with _ e2; omega)]
    exact h.keep g rfl j2 hj2
  · cases e
    obtain ⟨u, hu⟩ := h.room g rfl j2 hj2
    by_cases he : j = j2
    · subst he; exact ⟨v, World.cell?_setCell_same _ _ _ hu⟩
    · exact ⟨u, by rw [World.cell?_setCell_other _ _ _ _ (fun e => by injection e with _ e2; omega)]; exact hu⟩
  · cases e; rw [World.frozen?_setCell]; exact h.free g rfl j2
theorem SpAt.next {C : Nat → Nat} {c : Nat} {w0 w : World} {a : Option Addr} {N j0 : Nat} (h : SpAt C c w0 w a N j0) (k : Nat) (hk : j0 ≤ k) : SpAt C c w0 w a N k := ⟨h.mv, h.size, h.ad, fun g e j hj => h.keep g e j (by omega), h.room, h.free⟩
theorem SpAt.drew {C : Nat → Nat} {c : Nat} {w0 w : World} {a : Option Addr} {N j0 : Nat} (h : SpAt C c w0 w a N j0) (d : Nat) : SpAt C c w0 (w.drewN d) a N j0 := ⟨h.mv.drewN d, h.size, h.ad, h.keep, h.room, h.free⟩
end Go.Proofs.YtmnloeolacmemaaGreat
