/-
  gimletref22.Take of an event that comes next, with verdicts that fit.
-/
import Derived.Test.YtmnloeolacmemaaGreatWpV
import Derived.Deep.CutRange
import Derived.Deep.CutBlock
namespace Go.Proofs.YtmnloeolacmemaaGreat
open Go.RowKit

/-- between the world w of the call and wx; the event's box -/
structure RkAt (C : Nat → Nat) (w : World) (bo : Obj) (C' : Nat → Nat) (wx : World) : Prop where
  mv : Mv C 7 11 w wx
  pt : Paint C C' w wx
  bx : wx.heap[w.heap.size]? = some bo
  bc : C' w.heap.size = 0
section
variable {C C' C'' : Nat → Nat} {w wx wy : World} {bo : Obj}
theorem RkAt.next (h : RkAt C w bo C' wx) (hm : Mv C' 7 11 wx wy) (hp : Paint C' C'' wx wy) : RkAt C w bo C'' wy :=
  ⟨h.mv.andThen h.pt hm, h.pt.trans h.mv.size hp, (hm.block _ (heap_lt h.bx) (by rw [h.bc]; omega)).trans h.bx, (hp.old _ (heap_lt h.bx)).trans h.bc⟩
theorem RkAt.same (h : RkAt C w bo C' wx) (hm : Mv C' 7 11 wx wy) : RkAt C w bo C' wy := h.next hm (Paint.refl h.pt.top hm.size)
theorem RkAt.below (h : RkAt C w bo C' wx) (hb : Below wx.heap.size wx wy) : RkAt C w bo C' wy := h.same (Mv.below hb)
end
theorem VsAt.mvR {C : Nat → Nat} {w w' : World} {a : Option Addr} {n : Nat} {vs : List (Int × Int)} (h : VsAt w a n vs) (hc : vs ≠ [] → ∀ ad, a = some ad → C ad.block = 0) (hm : Mv C 7 11 w w') : VsAt w' a n vs :=
  ⟨h.len, fun i hi => by
    obtain ⟨b, o, h1, h2, h3, h4⟩ := h.cell i hi
    have hb := hm.block b h2 (by rw [hc (fun e => by rw [e] at hi; simp at hi) _ h1]; omega)
    exact ⟨b, o, h1, Nat.lt_of_lt_of_le h2 hm.size, (World.cell?_of_block (a := ⟨b, o + i * 2, none⟩) hb).trans h3, (World.cell?_of_block (a := ⟨b, o + i * 2 + 1, none⟩) hb).trans h4⟩⟩
theorem infoEv8 : (Tryz.prog.info? 36).map (fun i => (i.zero, i.size, i.bytes)) = some (some (.agg #[.int .i64 0, .int .i64 0, .int .i64 0, .string ⟨#[]⟩, .slice none 0 0, .string ⟨#[]⟩, .int .i64 0, .int .i64 0]), 8, 96) := by kernel_rfl
theorem infoRn : (Tryz.prog.info? 80).map (fun i => (i.zero, i.size, i.bytes)) = some (some (.agg #[.int .i64 0, .int .i64 0, .int .i64 0, .int .i64 0, .int .i64 0]), 5, 40) := by kernel_rfl
theorem elemRnodes : Tryz.prog.elem 29 = 80 := by kernel_rfl
theorem sizeRnode (w : World) : (sizeOf 80).run Tryz.prog w = .ok 5 w := by kernel_rfl
theorem elemEvs8 : Tryz.prog.elem 27 = 36 := by kernel_rfl
theorem sizeEv8 (w : World) : (sizeOf 36).run Tryz.prog w = .ok 8 w := by kernel_rfl
theorem rcomes_kind {m : RSt} {e : WEv} (h : rcomes m e = true) : e.kind = 0 ∨ e.kind = 1 ∨ (e.kind = 2 ∧ m.opn ≠ []) := by
  by_cases h0 : e.kind = 0
  · exact .inl h0
  by_cases h1 : e.kind = 1
  · exact .inr (.inl h1)
  by_cases h2 : e.kind = 2
  · refine .inr (.inr ⟨h2, fun hn => ?_⟩)
    simp [rcomes, h2, hn] at h
  · simp [rcomes, h0, h1, h2] at h
/-- an event that may be printed -/
structure EvOk (e : Ev) : Prop where
  kind : e.kind = 0 ∨ e.kind = 1 ∨ e.kind = 2
  wt : wtE e ≤ 1048576
/-- items of the answer's -/
structure ItemsQ (C : Nat → Nat) (B : Nat) (w : World) (v : Value) (l : List (Int × List UInt8)) : Prop where
  row : QRow w 51 2 v l.length (itemsV l)
  col : ∀ k, v.ownBlock = some k → B ≤ k ∧ k < w.heap.size ∧ C k = 11
/-- the state behind the switch -/
def rmid (m : RSt) (e : WEv) : RSt :=
  { evs := m.evs ++ [e], opn := if e.kind = 2 then m.opn.dropLast else if e.kind = 0 then m.opn ++ [m.evs.length] else m.opn, next := if e.kind = 2 then m.next else m.next + 1, last := e.to', opened := m.opened || decide (e.kind = 0), nodes := rwhole e m.evs.length m.nodes }
/-- a run of events out of the answer's -/
theorem RAt.sub {C : Nat → Nat} {w : World} {mb : Nat} {ev ov nv : Value} {l : List ER} {m : RSt} (h : RAt C w mb ev ov nv l m) (b f : Nat) (hbf : b < f) (hf : f ≤ l.length) :
    ∃ A2 c2, (∀ W, (Instr.slice 27 ev (some (.int .i64 (b : Int))) (some (.int .i64 (f : Int))) none).run Tryz.prog W = .ok (.slice A2 (f - b) c2) W) ∧ EvsAt w A2 (f - b) (((l.map (·.e)).take f).drop b) := by
  obtain ⟨k, hk⟩ : ∃ k, l.length = k + 1 := ⟨l.length - 1, by omega⟩
  have hq := h.evs
  rw [hk] at hq
  obtain ⟨g, off, c, rfl, hc, hg, _, hcell⟩ := hq.here
  refine ⟨some ⟨g, off + b * 8, none⟩, c - b, fun W => ?_, ?_⟩
  · rw [run_slice_lh (P := Tryz.prog) W 27 (some ⟨g, off, none⟩) (k + 1) c (by rw [elemEvs8]; exact Tryz.underlying27) .i64 .i64 (b : Int) (f : Int) (by omega) (by omega) (by omega), elemEvs8, sizeEv8]
    simp only [Result.andThen, sliced, Int.toNat_natCast]
    rw [if_neg (by omega), Option.map_some, Addr.add_lit]
  · have hlen : (((l.map (·.e)).take f).drop b).length = f - b := by simp; omega
    refine ⟨hlen.symm, fun i hi => ?_⟩
    rw [hlen] at hi
    have hbi : b + i < l.length := by omega
    have he : (((l.map (·.e)).take f).drop b)[i]'(by rw [hlen]; exact hi) = l[b + i].e := by simp
    obtain ⟨a1, a2, _⟩ := h.ats l[b + i] (List.getElem_mem hbi)
    rw [he]
    refine ⟨g, off + b * 8, l[b + i].A, l[b + i].m, l[b + i].c, rfl, hg, a2, a1, fun j hj => ?_⟩
    have := hcell ((b + i) * 8 + j) _ ((evRow_at l (b + i) hbi j hj).trans (List.getElem?_eq_getElem (by rw [evL_len]; exact hj)))
    rw [show off + b * 8 + i * 8 + j = off + ((b + i) * 8 + j) by omega, this, List.getElem?_eq_getElem]
theorem attrs_len8 (l : List (List UInt8 × List UInt8)) : (l.flatMap attrW).length ≤ 8 * wtA l := by
  induction l with
  | nil => simp [wtA]
  | cons p l ih =>
    have := replL_vlen p.2
    simp only [wtA, List.flatMap_cons, List.length_append, List.map_cons, List.sum_cons, attrW, List.length_cons, List.length_nil] at *
    omega
theorem RNk_cells {w : World} {e : TypeId} {size n : Nat} {g off c : Nat} {xs : List Value} (h : QRow w e size (.slice (some ⟨g, off, none⟩) n c) n xs) (hn : 0 < n) (j : Nat) (u : Value) (hj : xs[j]? = some u) : w.cell? ⟨g, off + j, none⟩ = some u := by
  obtain ⟨k, rfl⟩ : ∃ k, n = k + 1 := ⟨n - 1, by omega⟩
  obtain ⟨g', off', c', e, _, _, _, hc⟩ := h.here
  injection e with e _ _
  injection e with e
  injection e with e1 e2
  subst e1; subst e2
  exact hc j u hj
/-- what Take leaves -/
def RetRTake (C : Nat → Nat) (w : World) (mb : Nat) (l' : List ER) (its : List (Int × List UInt8)) (er : Int) (m' : RSt) (r : Ending) (w' : World) : Prop :=
  ∃ C' ev' ov' nv' ia ic, r = .returned (.tuple #[.slice ia its.length ic, .int .i64 er]) ∧ RAt C' w' mb ev' ov' nv' l' m' ∧ ItemsQ C' w.heap.size w' (.slice ia its.length ic) its ∧ Mv C 7 11 w w' ∧ Paint C C' w w'

set_option maxRecDepth 1000000 in
set_option maxHeartbeats 40000000 in
theorem rtake_ok {C : Nat → Nat} {w : World} {mb : Nat} {ev ov nv : Value} {l : List ER} {m : RSt} (h : RAt C w mb ev ov nv l m)
    (e : Ev) (A : Option Addr) (mm c : Nat) (hA : AttrsAt w A mm e.ats) (hmc : mm ≤ c) (hAc : e.ats ≠ [] → ∀ ad, A = some ad → C ad.block = 0)
    (a : Option Addr) (k cv : Nat) (vs : List (Int × Int)) (hV : VsAt w a k vs) (hVc : vs ≠ [] → ∀ ad, a = some ad → C ad.block = 0)
    (hel : m.evs.length + 1 ≤ 1048576) (hopl : m.opn.length + 1 ≤ 1048576) (hop : ∀ i ∈ m.opn, i < m.evs.length) (hnl : m.nodes.length + k ≤ 1048576) (hnx : 0 ≤ m.next ∧ m.next + 1 ≤ 1048576)
    (hc : rcomes m (wOf e) = true) (hg : gfit (fun j => (rfind m.nodes j).map (·.truth)) (wOf e) none vs = true) (hnd0 : (m.nodes.map (·.num)).Nodup)
    (hnd : ∀ i, i ≤ k → (((vs.take i).foldl (rverd (wOf e) m.evs.length) (rwhole (wOf e) m.evs.length m.nodes)).map (·.num)).Nodup)
    (hgood : ∀ r ∈ vs.foldl (rverd (wOf e) m.evs.length) (rwhole (wOf e) m.evs.length m.nodes), r.bgn < m.evs.length + 1 ∧ r.fin ≤ m.evs.length + 1 ∧ (0 < r.fin → r.bgn < r.fin))
    (hok : ∀ r ∈ l, EvOk r.e) (hoke : EvOk e) :
    Calls Tryz.prog 12 #[.pointer (some ⟨mb, 0, none⟩), .agg (evC e.kind e.num e.dep e.name A mm c e.text e.fr e.tt), .slice a k cv] w fun r w' =>
      RetRTake C w mb (l ++ [⟨e, A, mm, c⟩]) (rtake m (wOf e) vs).1.1 (rtake m (wOf e) vs).1.2 (rtake m (wOf e) vs).2 r w' := by
  have hk : k ≤ 1048576 := by omega
  have hbo : ∀ o, RkAt C w o C (w.alloc o) := fun o => ⟨(Mv.refl C 7 11 w).alloc o, Paint.refl h.top (by simp), heap_alloc_new w o, h.top _ (Nat.le_refl _)⟩
  have hcm := fun W (hb : Below w.heap.size w W) => rcomes_any (h.below hb) e.kind e.num e.dep e.fr e.tt e.name e.text A mm c (evOut e) (by omega) hop (by omega)
  have hft := fun W (hb : Below w.heap.size w W) => rfit_any (h.below hb) (by omega) hnd0 e.kind e.num e.dep e.fr e.tt e.name e.text A mm c (evOut e) a k cv vs (hV.below hb) hk
  have e1 : rcomes m ⟨e.kind, e.num, e.fr, e.tt, evOut e⟩ = true := hc
  have e2 : gfit (fun j => (rfind m.nodes j).map (·.truth)) ⟨e.kind, e.num, e.fr, e.tt, evOut e⟩ none vs = true := hg
  simp only [e1] at hcm
  simp only [e2] at hft
  have HCM := Lib.hid hcm
  have HFT := Lib.hid hft
  have HH := Lib.hid h
  obtain ⟨T, hT⟩ : ∃ T, tellR (m.evs ++ [wOf e]) (vs.foldl (rverd (wOf e) m.evs.length) (rwhole (wOf e) m.evs.length m.nodes)) = T := ⟨_, rfl⟩
  have hw1 : rtake m (wOf e) vs = ((T.1, 0), { rmid m (wOf e) with nodes := T.2 }) := by
    unfold rtake
    rw [if_pos ⟨hc, hg⟩, ← hT]
    rfl
  rw [hw1]
  simp only
  obtain ⟨S9, hS9⟩ : ∃ S9 : RSt, S9 = { rmid m (wOf e) with nodes := T.2 } := ⟨_, rfl⟩
  rw [← hS9]
  have HS9 := Lib.hid hS9
  have HTT := Lib.hid hT
  have HA := Lib.hid (⟨hA, hAc⟩ : _ ∧ _)
  have HV := Lib.hid (⟨hV, hVc, hg, hnd, hgood, hc, hok, hoke⟩ : _ ∧ _ ∧ _ ∧ _ ∧ _ ∧ _ ∧ _ ∧ _)
  have HBO := Lib.hid hbo
  have hlen : l.length = m.evs.length := by rw [h.evm, List.length_map]
  clear hw1 hS9 hT hcm hft e1 e2 hbo hA hAc hV hVc hg hnd hgood hok hoke h hop
  unfold evC at *
  go_enter Tryz.func12, Tryz.ntmps12
  go_wp2_with fail
  have HB0 := Lib.hid ((Below.refl w.heap.size w).alloc (Nat.le_refl _) (.cells #[.int .i64 e.kind, .int .i64 e.num, .int .i64 e.dep, .string (strL e.name), .slice A mm c, .string (strL e.text), .int .i64 e.fr, .int .i64 e.tt] 36))
  have HK0 := Lib.hid (HBO.out (.cells #[.int .i64 e.kind, .int .i64 e.num, .int .i64 e.dep, .string (strL e.name), .slice A mm c, .string (strL e.text), .int .i64 e.fr, .int .i64 e.tt] 36))
  obtain ⟨bo, hbo⟩ : ∃ bo : Obj, bo = (.cells #[.int .i64 e.kind, .int .i64 e.num, .int .i64 e.dep, .string (strL e.name), .slice A mm c, .string (strL e.text), .int .i64 e.fr, .int .i64 e.tt] 36) := ⟨_, rfl⟩
  have HBC : Hid (∀ {C' : Nat → Nat} {wx : World}, RkAt C w bo C' wx → wx.heap[w.heap.size]? = some (.cells #[.int .i64 e.kind, .int .i64 e.num, .int .i64 e.dep, .string (strL e.name), .slice A mm c, .string (strL e.text), .int .i64 e.fr, .int .i64 e.tt] 36)) := Lib.hid fun h => by rw [← hbo]; exact h.bx
  rw [← hbo] at HB0 HK0 ⊢
  clear hbo
  generalize w.alloc bo = W0 at *
  (with_reducible refine (HCM.out _ HB0.out).mono ?_)
  rintro r w2 ⟨rfl, hb2⟩
  have hk2 : RkAt C w bo C w2 := HK0.out.below hb2
  have HB2 := Lib.hid (HB0.out.trans (hb2.mono HB0.out.size))
  obtain ⟨q0, q1, q2, q3, q4, q5, q6, q7⟩ := box_cells (HBC.out hk2)
  have HK2 := Lib.hid hk2
  clear hb2 hk2
  go_wp2_with fail
  (with_reducible refine (HFT.out _ HB2.out).mono ?_)
  rintro r w3 ⟨rfl, hb3⟩
  have hk3 : RkAt C w bo C w3 := HK2.out.below hb3
  have hW3 : RAt C w3 mb ev ov nv l m := HH.out.below (HB2.out.trans (hb3.mono HB2.out.size))
  have HA3 : Hid (AttrsAt w3 A mm e.ats) := Lib.hid (HA.out.1.below (HB2.out.trans (hb3.mono HB2.out.size)))
  clear q0 q1 q2 q3 q4 q5 q6 q7 hb3
  obtain ⟨ea, ec, hev, _⟩ := hW3.evs.slice
  subst hev
  rw [hlen] at hW3 HH
  obtain ⟨m0, m1, m2, m3, m4, m5⟩ := hW3.cells
  obtain ⟨q0, q1, q2, q3, q4, q5, q6, q7⟩ := box_cells (HBC.out hk3)
  obtain ⟨AT, hAT⟩ : ∃ AT, m.evs.length = AT := ⟨_, rfl⟩
  rw [hAT] at m0 hel
  have HK3 := Lib.hid hk3
  have HW3 := Lib.hid (⟨hW3, hAT, hlen⟩ : _ ∧ _ ∧ _)
  obtain ⟨i0, hi, hz0, hz1, hz2⟩ := info_parts infoEv8
  have HQO : Hid (∀ W o, W.heap = (w3.alloc o).heap → QRow W 36 8 (.slice ea AT ec) AT (evRow l)) := Lib.hid fun W o hq => by
    have hq8 := hW3.evs
    rw [hlen, hAT] at hq8
    rw [hAT] at hW3
    exact hq8.keep (fun k hk => by rw [hq]; exact heap_alloc_old _ _ (hW3.lt0 (by rw [hW3.ce k hk]; decide)))
  rw [hAT] at hW3
  have HFA : Hid (∀ o v' w', App (w3.alloc o) w' (.slice ea AT ec) v' → w'.heap[mb]? = w3.heap[mb]?) := Lib.hid fun o v' w' hap => (hW3.appC hap 8 hW3.ce (by decide) (by decide)).1 mb (hW3.lt0 (by rw [hW3.cm]; decide)) (by rw [hW3.cm]; decide)
  have HPU : Hid (∀ o v' w', App (w3.alloc o) w' (.slice ea AT ec) v' → QRow w' 36 8 v' (AT + 1) (evRow l ++ [.int .i64 e.kind, .int .i64 e.num, .int .i64 e.dep, .string (strL e.name), .slice A mm c, .string (strL e.text), .int .i64 e.fr, .int .i64 e.tt]) → ∃ C', RAt C' (w'.setCell ⟨mb, 0, none⟩ v') mb v' ov nv (l ++ [⟨e, A, mm, c⟩]) { m with evs := m.evs ++ [wOf e] } ∧ RkAt C w bo C' (w'.setCell ⟨mb, 0, none⟩ v')) := Lib.hid fun o v' w' hap hqr => by
    obtain ⟨g1, g2, g3, g4⟩ := hW3.appC hap 8 hW3.ce (by decide) (by decide)
    have hqr' : QRow w' 36 8 v' (l.length + 1) (evRow l ++ evL e A mm c) := by rw [hlen, hAT]; exact hqr
    obtain ⟨d1, d2, d3⟩ := hW3.setEv (r := ⟨e, A, mm, c⟩) g2 g4 g1 hqr' (fun j hj => g3 j hj (hqr'.lt j hj)) HA3.out hmc HA.out.2
    exact ⟨_, d1, HK3.out.next d2 d3⟩
  have HBK := Lib.hid hW3.blk
  have ma : ∀ o, (w3.alloc o).cell? ⟨mb, 0, none⟩ = some (.slice ea AT ec) := fun o => by rw [cell_heap ((heap_alloc_old w3 o (hW3.lt0 (by rw [hW3.cm]; decide))).trans hW3.blk)]; rfl
  clear hW3 hk3 hAT
  go_upto_region 4 with fail
  go_cut [] from 31 to 40 (fun wx => ∃ C' ev', RAt C' wx mb ev' ov nv (l ++ [⟨e, A, mm, c⟩]) { m with evs := m.evs ++ [wOf e] } ∧ RkAt C w bo C' wx)
  case first =>
    go_region_law (first | (refine step_qapp rfl (.tmp 35) (.tmp 37) 27 rfl 36 i0 (.agg #[.int .i64 0, .int .i64 0, .int .i64 0, .string ⟨#[]⟩, .slice none 0 0, .string ⟨#[]⟩, .int .i64 0, .int .i64 0]) 8 96 Tryz.underlying27 hi hz0 hz1 hz2 (by rfl) (by decide) (.slice ea AT ec) AT (evRow l) (by rfl) ?_ _ _ [.int .i64 e.kind, .int .i64 e.num, .int .i64 e.dep, .string (strL e.name), .slice A mm c, .string (strL e.text), .int .i64 e.fr, .int .i64 e.tt] (by rfl) (heap_alloc_new w3 _) (by rfl) (by intro u hu; simp only [List.mem_cons, List.not_mem_nil, or_false] at hu; rcases hu with rfl | rfl | rfl | rfl | rfl | rfl | rfl | rfl <;> rfl) (by omega) (by decide) ?_; exact HQO.out _ _ rfl; intro v7 w7 hq7 hap7; have hap8 : App (w3.alloc (.cells ([.int .i64 e.kind, .int .i64 e.num, .int .i64 e.dep, .string (strL e.name), .slice A mm c, .string (strL e.text), .int .i64 e.fr, .int .i64 e.tt] : List Value).toArray 36)) w7 (.slice ea AT ec) v7 := ⟨⟨hap7.grown.os, hap7.grown.tape, hap7.grown.output, hap7.grown.size, hap7.grown.block⟩, hap7.own⟩; have d0 := (HFA.out _ _ _ hap8).trans HBK.out; have d3 : w7.cell? ⟨mb, 0, none⟩ = some (.slice ea AT ec) := (by rw [cell_heap d0]; rfl); have f7 := frozen_heap (i := 0) d0; obtain ⟨a7, c7, rfl, _⟩ := hq7.slice))
    all_goals
      have HX := Lib.hid (HPU.out _ _ _ hap8 hq7)
      clear hq7 hap7 hap8 d0 d3 f7
      go_wp2_with fail
      go_meet
      obtain ⟨C9, g1, g2⟩ := HX.out
      exact ⟨C9, _, g1, g2⟩
  case rest =>
    obtain ⟨C5, ev5, hW5, hK5⟩ := hcut
    clear m0 m1 m2 m3 m4 m5 q0 q1 q2 q3 q4 q5 q6 q7 ma HQO HFA HPU HBK hi hz0 hz1 hz2
    obtain ⟨m0, m1, m2, m3, m4, m5⟩ := hW5.cells
    have f3 := hW5.froz 3
    obtain ⟨q0, q1, q2, q3, q4, q5, q6, q7⟩ := box_cells (HBC.out hK5)
    have HL5 := Lib.hid (hW5.setB 3 (.int .i64 e.tt) { m with evs := m.evs ++ [wOf e], last := e.tt } (fun _ hw => hw) rfl rfl rfl)
    have HK5 := Lib.hid hK5
    clear hW5 hK5
    go_upto_block 0 with fail
    obtain ⟨hW6, hM6⟩ := HL5.out
    generalize wc.setCell ⟨mb, 3, none⟩ (.int .i64 e.tt) = w6 at *
    have hK6 : RkAt C w bo C5 w6 := HK5.out.same hM6
    have HW6 := Lib.hid hW6
    have HK6 := Lib.hid hK6
    clear hM6 HL5 m0 m1 m2 m3 m4 m5 f3 q0 q1 q2 q3 q4 q5 q6 q7 HK5
    obtain ⟨m0, m1, m2, m3, m4, m5⟩ := hW6.cells
    have f1 := hW6.froz 1
    have f2 := hW6.froz 2
    have f4 := hW6.froz 4
    obtain ⟨q0, q1, q2, q3, q4, q5, q6, q7⟩ := box_cells (HBC.out hK6)
    have ewn : IntKind.i64.wrap (m.next + 1) = m.next + 1 := IntWalk.i64_in _ (by omega)
    go_cut [9] from 48 to 109 (fun s9 wx => ∃ C' ov' nv', RAt C' wx mb ev5 ov' nv' (l ++ [⟨e, A, mm, c⟩]) (rmid m (wOf e)) ∧ RkAt C w bo C' wx)
    case first =>
      have hk3 := rcomes_kind HV.out.2.2.2.2.2.1
      have hk3' : e.kind = 0 ∨ e.kind = 1 ∨ (e.kind = 2 ∧ m.opn ≠ []) := hk3
      clear hk3
      rcases hk3' with hk0 | hk1 | ⟨hk2, hon⟩
      · -- Open
        have hmid : rmid m (wOf e) = { m with evs := m.evs ++ [wOf e], last := e.tt, opn := m.opn ++ [AT], opened := true, next := m.next + 1 } := by
          simp only [rmid, wOf, rwhole, hk0, ← HW3.out.2.1]
          simp
        have HMID := Lib.hid hmid
        obtain ⟨i1, hi, hz0, hz1, hz2⟩ := info_parts infoInt
        have hq6 := hW6.opn
        obtain ⟨oa, oc, hov, _⟩ := hq6.slice
        have hov' : ov = .slice oa m.opn.length oc := hov
        subst hov'
        have HQ6 : Hid (QRow w6 3 1 (.slice oa m.opn.length oc) m.opn.length (natsV m.opn) ∧ ∀ k, (Value.slice oa m.opn.length oc).ownBlock = some k → k < w6.heap.size) := Lib.hid ⟨hq6, fun k hk => hW6.lt0 (by rw [hW6.co k hk]; decide)⟩
        have HFA : Hid (∀ o v' w', App (w6.alloc o) w' (.slice oa m.opn.length oc) v' → w'.heap[mb]? = some (.cells #[ev5, .slice oa m.opn.length oc, .int .i64 m.next, .int .i64 e.tt, .bool m.opened, nv] 31 (0, 0))) := Lib.hid fun o v' w' hap => ((hW6.appC hap 9 hW6.co (by decide) (by decide)).1 mb (hW6.lt0 (by rw [hW6.cm]; decide)) (by rw [hW6.cm]; decide)).trans hW6.blk
        clear hmid hW6 hK6 hq6 hov
        generalize e.kind = kd at *
        subst hk0
        go_wp2_with (at_builtin; go_must ((refine wpList_qapp w6 (by rfl) _ _ 28 (by rfl) 3 i1 (.int .i64 0) 1 8 Tryz.underlying28 hi hz0 hz1 hz2 (by rfl) (by decide) (.slice oa m.opn.length oc) m.opn.length (natsV m.opn) (by rfl) HQ6.out.1 HQ6.out.2 _ rfl 1 [.int .i64 (AT : Nat)] (by rfl) (by rfl) (by intro u hu; simp only [List.mem_cons, List.not_mem_nil, or_false] at hu; subst hu; rfl) (by omega) (by decide) (fun v7 w7 hq7 hap7 => ?_)); (obtain ⟨a7, c7, rfl, _⟩ := hq7.slice); (have hblk7 := HFA.out _ _ _ hap7); (have y1 : w7.cell? ⟨mb, 1, none⟩ = some (.slice oa m.opn.length oc) := by rw [cell_heap hblk7]; rfl); (have y2 : w7.cell? ⟨mb, 2, none⟩ = some (.int .i64 m.next) := by rw [cell_heap hblk7]; rfl); (have y4 : w7.cell? ⟨mb, 4, none⟩ = some (.bool m.opened) := by rw [cell_heap hblk7]; rfl); (have x1 := frozen_heap (i := 1) hblk7); (have x2 := frozen_heap (i := 2) hblk7); (have x4 := frozen_heap (i := 4) hblk7)))
        obtain ⟨g1, g2, g3, g4⟩ := HW6.out.appC hap7 9 HW6.out.co (by decide) (by decide)
        have hst := HW6.out.setOp (o' := m.opn ++ [AT]) g2 g4 g1 (by rw [List.length_append]; simpa [natsV] using hq7) (fun j hj => g3 j hj (hq7.lt j hj))
        obtain ⟨d1, d2, d3⟩ := hst
        have d4 := d1.setB 4 (.bool true) { m with evs := m.evs ++ [wOf e], last := e.tt, opn := m.opn ++ [AT], opened := true } (fun _ hw => hw) rfl rfl rfl
        have d5 := d4.1.setB 2 (.int .i64 (m.next + 1)) { m with evs := m.evs ++ [wOf e], last := e.tt, opn := m.opn ++ [AT], opened := true, next := m.next + 1 } (fun _ hw => hw) rfl rfl rfl
        have HFIN := Lib.hid (⟨d5.1, ((HK6.out.next d2 d3).same d4.2).same d5.2⟩ : _ ∧ _)
        clear hq7 hap7 g1 g2 g3 g4 hblk7 d1 d2 d3 d4 d5 m0 m1 m2 m3 m4 m5 f1 f2 f4
        go_wp2_with fail
        go_meet
        exact ⟨_, _, _, by rw [HMID.out]; exact HFIN.out.1, HFIN.out.2⟩
      · -- Text
        have hmid : rmid m (wOf e) = { m with evs := m.evs ++ [wOf e], last := e.tt, next := m.next + 1 } := by
          simp only [rmid, wOf, rwhole, hk1]
          simp
        have HMID := Lib.hid hmid
        have d5 := hW6.setB 2 (.int .i64 (m.next + 1)) { m with evs := m.evs ++ [wOf e], last := e.tt, next := m.next + 1 } (fun _ hw => hw) rfl rfl rfl
        have HFIN := Lib.hid (⟨d5.1, hK6.same d5.2⟩ : _ ∧ _)
        clear hmid hW6 hK6 d5
        generalize e.kind = kd at *
        subst hk1
        go_wp2_with fail
        go_meet
        exact ⟨_, _, _, by rw [HMID.out]; exact HFIN.out.1, HFIN.out.2⟩
      · -- Close
        have hmid : rmid m (wOf e) = { m with evs := m.evs ++ [wOf e], last := e.tt, opn := m.opn.dropLast, nodes := m.nodes.map (fun r => if r.num = e.num then { r with fin := AT + 1 } else r) } := by
          simp only [rmid, wOf, rwhole, hk2, ← HW3.out.2.1]
          simp
        have HMID := Lib.hid hmid
        have hol : m.opn = m.opn.dropLast ++ [m.opn.getLast hon] := (List.dropLast_concat_getLast hon).symm
        have hopq := hW6.opn
        obtain ⟨lo, hl⟩ : ∃ lo, m.opn.dropLast = lo := ⟨_, rfl⟩
        obtain ⟨pl, hpl⟩ : ∃ pl, m.opn.getLast hon = pl := ⟨_, rfl⟩
        rw [hl, hpl] at hol
        simp only [hol] at hopq
        rw [List.length_append, List.length_singleton, show natsV (lo ++ [pl]) = natsV lo ++ natsV [pl] by simp [natsV]] at hopq
        obtain ⟨v9, hs9, hq9, hb9⟩ := hopq.pop1 (P := Tryz.prog) 28 Tryz.underlying28 elemInts sizeInt (by simp [natsV])
        obtain ⟨a9, c9, rfl, _⟩ := hq9.slice
        obtain ⟨g, off, c2, rfl, _, _, _, _⟩ := hopq.here
        obtain ⟨N, hN⟩ : ∃ N, lo.length + 1 = N := ⟨_, rfl⟩
        obtain ⟨M, hM⟩ : ∃ M, lo.length = M := ⟨_, rfl⟩
        have hNle : N ≤ 1048576 := by have := congrArg List.length hol; simp at this; omega
        have ew : IntKind.i64.wrap ((N : Int) - 1) = (M : Int) := by rw [IntWalk.i64_in _ (by omega)]; omega
        have HS9 : Hid (RAt C5 (w6.setCell ⟨mb, 1, none⟩ (.slice a9 lo.length c9)) mb ev5 (.slice a9 lo.length c9) nv (l ++ [⟨e, A, mm, c⟩]) { m with evs := m.evs ++ [wOf e], last := e.tt, opn := lo } ∧ RkAt C w bo C5 (w6.setCell ⟨mb, 1, none⟩ (.slice a9 lo.length c9))) := Lib.hid (by
          obtain ⟨g1, g2, _⟩ := hW6.setOp (o' := lo) (Paint.refl hW6.top (Nat.le_refl _)) (Mv.refl C5 7 11 w6) (fun _ _ _ => rfl) hq9 (fun k hk => hW6.co k (hb9 k hk))
          exact ⟨g1, hK6.same g2⟩)
        rw [hN] at hs9 m1
        rw [hM] at hs9 HS9
        rw [hl] at HMID
        clear hW6 hK6 hmid hol hopq hq9 hb9 hl hpl hM hN
        generalize e.kind = kd at *
        subst hk2
        go_upto_region 14 with fail
        go_cut [] from 81 to 94 (fun wx => RAt C5 wx mb ev5 (.slice a9 M c9) nv (l ++ [⟨e, A, mm, c⟩]) { m with evs := m.evs ++ [wOf e], last := e.tt, opn := lo } ∧ RkAt C w bo C5 wx)
        case first =>
          go_region
          all_goals
            go_wp2_with fail
            go_meet
            exact ⟨HS9.out.1.eqv ⟨_, rfl⟩, HS9.out.2.below (Eqv.below ⟨_, rfl⟩)⟩
        case rest =>
          obtain ⟨hW7, hK7⟩ := hcut
          clear m0 m1 m2 m3 m4 m5 f1 f2 f4 q0 q1 q2 q3 q4 q5 q6 q7 hs9 HS9 HW6 HK6
          obtain ⟨m0, m1, m2, m3, m4, m5⟩ := hW7.cells
          obtain ⟨q0, q1, q2, q3, q4, q5, q6, q7⟩ := box_cells (HBC.out hK7)
          cases hx : rfind m.nodes e.num with
          | none =>
            have HFD := Lib.hid (find_none hW7 e.num (by show m.nodes.length ≤ _; omega) hx)
            have hm1 : rmid m (wOf e) = { m with evs := m.evs ++ [wOf e], last := e.tt, opn := lo } := by
              rw [HMID.out]
              have : m.nodes.map (fun r => if r.num = e.num then { r with fin := AT + 1 } else r) = m.nodes := by
                conv => rhs; rw [← List.map_id m.nodes]
                exact List.map_congr_left (fun r hr => by
                  have := List.find?_eq_none.1 hx r hr
                  simp at this; simp [this])
              rw [this]
            have HM1 := Lib.hid hm1
            have HW7 := Lib.hid (⟨hW7, hK7⟩ : _ ∧ _)
            clear hW7 hK7 hx hm1
            go_wp2_with fail
            (with_reducible refine (HFD.out _ ?_).mono ?_)
            · exact Eqv.refl _
            rintro r9 w9 ⟨rfl, rfl⟩
            go_wp2_with fail
            go_meet
            exact ⟨_, _, _, by rw [HM1.out]; exact HW7.out.1, HW7.out.2⟩
          | some x =>
            obtain ⟨I, hI, hIx, hxn, hfd⟩ := find_some hW7 e.num (by show m.nodes.length ≤ _; omega) hnd0 hx
            have HFD := Lib.hid hfd
            obtain ⟨na, nc, hnv, _, hcell⟩ := hW7.node5
            obtain ⟨g3, off3, rfl, hgl3, _, hfr3, _, _, _, _, n4⟩ := hcell I hI
            have hI' : I < m.nodes.length := hI
            have hm1 : rmid m (wOf e) = { m with evs := m.evs ++ [wOf e], last := e.tt, opn := lo, nodes := m.nodes.set I { x with fin := AT + 1 } } := by
              rw [HMID.out]
              have h1 := modify_map (fun r => { r with fin := AT + 1 }) hnd0 hI'
              have h2 : m.nodes[I] = x := hIx
              rw [h2, hxn] at h1
              rw [← h1]
              congr 1
              rw [modify_set _ _ _ hI', h2]
            have hset := hW7.nodeSet hnv (by show 0 < m.nodes.length; omega) (I * 5 + 4) (.int .i64 ((AT + 1 : Nat) : Int)) (nodes' := m.nodes.set I { x with fin := AT + 1 }) (by simp) (by
              refine rnV_set m.nodes I hI' { x with fin := AT + 1 } 4 _ (by decide) ?_
              have h2 : m.nodes[I] = x := hIx
              rw [h2]; rfl)
            have HFIN := Lib.hid (⟨hset.1, hK7.same hset.2⟩ : _ ∧ _)
            have HM1 := Lib.hid hm1
            have hnv' : nv = .slice (some ⟨g3, off3, none⟩) m.nodes.length nc := hnv
            rw [hnv'] at m5
            obtain ⟨NL, hNL⟩ : ∃ NL, m.nodes.length = NL := ⟨_, rfl⟩
            rw [hNL] at m5 hI'
            have j1 : (0 : Int) ≤ (I : Int) := by omega
            have j2 : (I : Int) < (NL : Int) := by omega
            have fr3 := hfr3 (off3 + I * 5 + 4)
            have ewA : IntKind.i64.wrap ((AT : Int) + 1) = ((AT + 1 : Nat) : Int) := by rw [IntWalk.i64_in _ (by omega)]; push_cast; rfl
            obtain ⟨A1, hA1⟩ : ∃ A1, AT + 1 = A1 := ⟨_, rfl⟩
            rw [hA1] at ewA HFIN HM1
            clear hW7 hK7 hx hm1 hset hcell hIx hnv hnv' hNL hfr3 hfd hA1 hxn
            go_wp2_with fail
            (with_reducible refine (HFD.out _ ?_).mono ?_)
            · exact Eqv.refl _
            rintro r9 w9 ⟨rfl, rfl⟩
            go_wp2_with fail
            go_meet
            refine ⟨C5, .slice a9 M c9, nv, ?_, ?_⟩
            · rw [HM1.out]; have := HFIN.out.1; simp only [← Nat.add_assoc] at this; exact this
            · have := HFIN.out.2; simp only [← Nat.add_assoc] at this; exact this
    case rest =>
      obtain ⟨C7, ov7, nv7, hW7, hK7⟩ := hcut
      clear m0 m1 m2 m3 m4 m5 f1 f2 f4 q0 q1 q2 q3 q4 q5 q6 q7 HW6 HK6
      obtain ⟨sm, hsm'⟩ : ∃ sm : RSt, sm = rmid m (wOf e) := ⟨_, rfl⟩
      have hsmn : sm.nodes = rwhole (wOf e) AT m.nodes := by rw [hsm', ← HW3.out.2.1]; rfl
      have hsme : sm.evs = m.evs ++ [wOf e] := by rw [hsm']; rfl
      have hnl0 : sm.nodes.length = m.nodes.length := by rw [hsmn]; unfold rwhole; split <;> simp
      have HSM := Lib.hid (⟨hsm', hsmn, hsme, hnl0⟩ : _ ∧ _ ∧ _ ∧ _)
      rw [← hsm'] at hW7
      clear hsm' hsmn hsme hnl0
      have HW8 := Lib.hid hW7
      have HK8 := Lib.hid hK7
      have HKL : Hid (k = vs.length) := Lib.hid HV.out.1.len
      obtain ⟨D, hD⟩ : ∃ D : Nat → List RNd, ∀ i, D i = (vs.take i).foldl (rverd (wOf e) AT) sm.nodes := ⟨_, fun _ => rfl⟩
      have hD0 : D 0 = sm.nodes := by rw [hD]; rfl
      have hDs : ∀ i (h : i < vs.length), D (i + 1) = rverd (wOf e) AT (D i) vs[i] := fun i h => by rw [hD, hD, List.take_succ_eq_append_getElem h, List.foldl_append]; rfl
      have hDl : ∀ i, i ≤ vs.length → (D i).length ≤ m.nodes.length + i := by
        intro i
        induction i with
        | zero => intro _; rw [hD0, HSM.out.2.2.2]; exact Nat.le_refl _
        | succ i ih =>
          intro h
          have h1 := ih (by omega)
          rw [hDs i (by omega)]
          unfold rverd
          split
          · simp; omega
          · split
            · simp; omega
            · have := List.length_filter_le (fun r : RNd => r.num != vs[i].1) (D i); omega
      have hDn : ∀ i, i ≤ k → ((D i).map (·.num)).Nodup := fun i hi => by
        have := HV.out.2.2.2.1 i hi
        rw [HW3.out.2.1] at this
        rw [hD, HSM.out.2.1]; exact this
      have HD := Lib.hid (⟨hD, hD0, hDs, hDl, hDn⟩ : _ ∧ _ ∧ _ ∧ _ ∧ _)
      clear hW7 hK7 hD hD0 hDs hDl hDn
      go_wp2_with fail
      generalize wc = w8 at *
      go_loopw [10] (fun iv wr => ∃ i : Nat, iv = .int .i64 i ∧ i ≤ k ∧ Hid (∃ C' evr ovr nvr, RAt C' wr mb evr ovr nvr (l ++ [⟨e, A, mm, c⟩]) { sm with nodes := D i } ∧ RkAt C w bo C' wr)) (fun iv _ => k - (intOf iv).toNat)
      case atStart => exact ⟨0, rfl, Nat.zero_le _, Lib.hid ⟨C7, ev5, ov7, nv7, by rw [HD.out.2.1]; exact HW8.out, HK8.out⟩⟩
      case round =>
        obtain ⟨i, rfl, hi', HR⟩ := hrel
        obtain ⟨Cr, evr, ovr, nvr, hWr, hKr⟩ := HR.out
        by_cases hin : i < k
        · have hil : i < vs.length := by rw [← HKL.out]; exact hin
          obtain ⟨b, o, rfl, hbl, p1, p2⟩ := (HV.out.1.mvR HV.out.2.1 hKr.mv).cell i hil
          have hDs := HD.out.2.2.1 i hil
          have hDl := HD.out.2.2.2.1 i (by omega)
          obtain ⟨v1, hv1⟩ : ∃ v1, vs[i].1 = v1 := ⟨_, rfl⟩
          obtain ⟨v2, hv2⟩ : ∃ v2, vs[i].2 = v2 := ⟨_, rfl⟩
          have hvp : vs[i] = (v1, v2) := by rw [← hv1, ← hv2]
          rw [hvp] at hDs
          rw [hv1] at p1
          rw [hv2] at p2
          have hbb : b < wr.heap.size := World.block_lt_of_cell? wr _ p1
          obtain ⟨q0, q1, q2, q3, q4, q5, q6, q7⟩ := box_cells (HBC.out hKr)
          obtain ⟨m0, m1, m2, m3, m4, m5⟩ := hWr.cells
          have hdn := HD.out.2.2.2.2 i (by omega)
          have HXV := Lib.hid (⟨hWr, hKr, hDs, hDl, hdn⟩ : _ ∧ _ ∧ _ ∧ _ ∧ _)
          have i1 : (0 : Int) ≤ (i : Int) := by omega
          have i2 : (i : Int) < (k : Int) := by omega
          have ew : IntKind.i64.wrap ((i : Int) + 1) = (i : Int) + 1 := IntWalk.i64_in _ (by omega)
          have hll : (D i).length ≤ 1048576 := by omega
          clear hKr hDs hv1 hv2 hvp hdn
          cases hx : rfind (D i) v1 with
          | none =>
            have HFD := Lib.hid (find_none hWr v1 hll hx)
            have HDN : Hid (D (i + 1) = D i ++ [⟨e.num, e.fr, v2, AT, if e.kind = 1 then AT + 1 else 0⟩]) := Lib.hid (by
              rw [HXV.out.2.2.1]; simp only [rverd, hx]; rfl)
            have HDLL := Lib.hid hDl
            have HS : Hid (∀ W, Below wr.heap.size wr W → W.cell? ⟨w.heap.size, 1, none⟩ = some (.int .i64 e.num) ∧ W.cell? ⟨w.heap.size, 6, none⟩ = some (.int .i64 e.fr) ∧ W.cell? ⟨b, o + i * 2 + 1, none⟩ = some (.int .i64 v2) ∧ Below wr.heap.size wr W) := Lib.hid fun W hW => ⟨(hW.cell (p := ⟨w.heap.size, 1, none⟩) (heap_lt HXV.out.2.1.bx)).trans q1, (hW.cell (p := ⟨w.heap.size, 6, none⟩) (heap_lt HXV.out.2.1.bx)).trans q6, (hW.cell (p := ⟨b, o + i * 2 + 1, none⟩) hbb).trans p2, hW⟩
            have HDR := (Below.refl wr.heap.size wr).drew
            have HSA : Hid (∀ W o, Below wr.heap.size wr W → Below wr.heap.size wr (W.alloc o)) := Lib.hid fun W o hW => hW.alloc hW.size o
            have HSC : Hid (∀ W j u, Below wr.heap.size wr W → Below wr.heap.size wr (W.setCell ⟨wr.heap.size, j, none⟩ u)) := Lib.hid fun W j u hW => Below.setCell hW (Nat.le_refl _) u
            clear hx hWr
            by_cases hk1 : e.kind = 1
            · have hkt : (e.kind == 1) = true := by simp [hk1]
              obtain ⟨FF, hFF⟩ : ∃ FF, AT + 1 = FF := ⟨_, rfl⟩
              have HFF : Hid ((if e.kind = 1 then AT + 1 else 0) = FF) := Lib.hid (by rw [if_pos hk1]; exact hFF)
              have ewA : IntKind.i64.wrap ((AT : Int) + 1) = ((FF : Nat) : Int) := by rw [IntWalk.i64_in _ (by omega)]; omega
              clear hk1 hFF
              go_wp2_with fail
              (with_reducible refine (HFD.out _ ?_).mono ?_)
              · exact Eqv.refl _
              rintro r9 w9 ⟨rfl, hw9⟩
              rw [hw9]
              clear hw9 w9
              go_wp2_with fail
              go_region_held3 (fun w' => w'.cell? ⟨w.heap.size, 1, none⟩ = some (.int .i64 e.num) ∧ w'.cell? ⟨w.heap.size, 6, none⟩ = some (.int .i64 e.fr) ∧ w'.cell? ⟨b, o + i * 2 + 1, none⟩ = some (.int .i64 v2) ∧ Below wr.heap.size wr w') (first | exact HS.out _ HDR | exact HS.out _ (HSA.out _ _ HDR) | exact HS.out _ (HSC.out _ _ _ (HSA.out _ _ HDR)) | exact HS.out _ (HSA.out _ _ ‹_›)) (fail)
              obtain ⟨wx, hwx⟩ : ∃ wx, (wr.alloc (.cells #[.int .i64 e.num, .int .i64 e.fr, .int .i64 v2, .int .i64 (AT : Nat), .int .i64 0] 80)).drew = wx := ⟨_, rfl⟩
              have hbx : Below wr.heap.size wr wx := by rw [← hwx]; exact ((Below.refl _ _).alloc (Nat.le_refl _) _).drew
              have hnx' : wx.heap[wr.heap.size]? = some (.cells #[.int .i64 e.num, .int .i64 e.fr, .int .i64 v2, .int .i64 (AT : Nat), .int .i64 0] 80 (0, 0)) := by rw [← hwx]; exact heap_alloc_new wr _
              rw [hwx]
              clear hwx
              have qx0 : wx.cell? ⟨w.heap.size, 0, none⟩ = some (.int .i64 e.kind) := (hbx.cell (p := ⟨w.heap.size, 0, none⟩) (heap_lt HXV.out.2.1.bx)).trans q0
              have x4 : wx.cell? ⟨wr.heap.size, 4, none⟩ = some (.int .i64 0) := by rw [cell_heap hnx']; rfl
              have xf := frozen_heap (i := 4) hnx'
              obtain ⟨wy, hwy⟩ : ∃ wy, wx.setCell ⟨wr.heap.size, 4, none⟩ (.int .i64 (FF : Nat)) = wy := ⟨_, rfl⟩
              have hby : Below wr.heap.size wr wy := by rw [← hwy]; exact Below.setCell hbx (Nat.le_refl _) _
              have hny : wy.heap[wr.heap.size]? = some (.cells #[.int .i64 e.num, .int .i64 e.fr, .int .i64 v2, .int .i64 (AT : Nat), .int .i64 (FF : Nat)] 80 (0, 0)) := by rw [← hwy]; exact setCell_heap hnx' _
              have HWY := Lib.hid hwy
              clear hwy
              go_wp2_with fail
              simp only [HWY.out]
              clear x4 xf qx0 hbx hnx'
              have hWy : RAt Cr wy mb evr ovr nvr (l ++ [⟨e, A, mm, c⟩]) { sm with nodes := D i } := HXV.out.1.below hby
              have hKy : RkAt C w bo Cr wy := HXV.out.2.1.below hby
              obtain ⟨y0, y1, y2, y3, y4, y5⟩ := hWy.cells
              obtain ⟨i3, hi, hz0, hz1, hz2⟩ := info_parts infoRn
              have n0 : wy.cell? ⟨wr.heap.size, 0, none⟩ = some (.int .i64 e.num) := by rw [cell_heap hny]; rfl
              have n1 : wy.cell? ⟨wr.heap.size, 1, none⟩ = some (.int .i64 e.fr) := by rw [cell_heap hny]; rfl
              have n2 : wy.cell? ⟨wr.heap.size, 2, none⟩ = some (.int .i64 v2) := by rw [cell_heap hny]; rfl
              have n3 : wy.cell? ⟨wr.heap.size, 3, none⟩ = some (.int .i64 (AT : Nat)) := by rw [cell_heap hny]; rfl
              have n4 : wy.cell? ⟨wr.heap.size, 4, none⟩ = some (.int .i64 (FF : Nat)) := by rw [cell_heap hny]; rfl
              have ma : ∀ o', (wy.alloc o').cell? ⟨mb, 5, none⟩ = some nvr := fun o' => by rw [cell_heap ((heap_alloc_old wy o' (hWy.lt0 (by rw [hWy.cm]; decide))).trans hWy.blk)]; rfl
              have HQO : Hid (∀ W o', W.heap = (wy.alloc o').heap → QRow W 80 5 nvr (D i).length (rnV (D i))) := Lib.hid fun W o' hq => hWy.nds.keep (fun k hk => by rw [hq]; exact heap_alloc_old _ _ (hWy.lt0 (by rw [hWy.cn k hk]; decide)))
              have HFA : Hid (∀ o' v' w', App (wy.alloc o') w' nvr v' → w'.heap[mb]? = wy.heap[mb]?) := Lib.hid fun o' v' w' hap => (hWy.appC hap 10 hWy.cn (by decide) (by decide)).1 mb (hWy.lt0 (by rw [hWy.cm]; decide)) (by rw [hWy.cm]; decide)
              have HPU : Hid (∀ o' v' w', App (wy.alloc o') w' nvr v' → QRow w' 80 5 v' ((D i).length + 1) (rnV (D i) ++ [.int .i64 e.num, .int .i64 e.fr, .int .i64 v2, .int .i64 (AT : Nat), .int .i64 (FF : Nat)]) → ∃ C', RAt C' (w'.setCell ⟨mb, 5, none⟩ v') mb evr ovr v' (l ++ [⟨e, A, mm, c⟩]) { sm with nodes := D (i + 1) } ∧ RkAt C w bo C' (w'.setCell ⟨mb, 5, none⟩ v')) := Lib.hid fun o' v' w' hap hqr => by
                obtain ⟨g1, g2, g3, g4⟩ := hWy.appC hap 10 hWy.cn (by decide) (by decide)
                obtain ⟨d1, d2, d3⟩ := hWy.setNd (nodes' := D i ++ [⟨e.num, e.fr, v2, AT, FF⟩]) g2 g4 g1 (by rw [List.length_append, rnV_app]; exact hqr) (fun j hj => g3 j hj (hqr.lt j hj))
                rw [HDN.out, HFF.out]
                exact ⟨_, d1, hKy.next d2 d3⟩
              have HBK := Lib.hid hWy.blk
              have hdl2 : (D i).length + 1 ≤ 4294967296 := by have := HDLL.out; omega
              have HDL2 := Lib.hid hdl2
              clear hWy hKy hby hny hdl2 y0 y1 y2 y3 y4
              go_region_law (first | (refine step_qapp rfl (.tmp 166) (.tmp 168) 29 rfl 80 i3 (.agg #[.int .i64 0, .int .i64 0, .int .i64 0, .int .i64 0, .int .i64 0]) 5 40 Tryz.underlying29 hi hz0 hz1 hz2 (by rfl) (by decide) nvr (D i).length (rnV (D i)) (by rfl) ?_ _ _ [.int .i64 e.num, .int .i64 e.fr, .int .i64 v2, .int .i64 (AT : Nat), .int .i64 (FF : Nat)] (by rfl) (heap_alloc_new wy _) (by rfl) (by intro u hu; simp only [List.mem_cons, List.not_mem_nil, or_false] at hu; rcases hu with rfl | rfl | rfl | rfl | rfl <;> rfl) HDL2.out (by decide) ?_; exact HQO.out _ _ rfl; intro v7 w7 hq7 hap7; have hap8 : App (wy.alloc (.cells ([.int .i64 e.num, .int .i64 e.fr, .int .i64 v2, .int .i64 (AT : Nat), .int .i64 (FF : Nat)] : List Value).toArray 80)) w7 nvr v7 := ⟨⟨hap7.grown.os, hap7.grown.tape, hap7.grown.output, hap7.grown.size, hap7.grown.block⟩, hap7.own⟩; have d0 := (HFA.out _ _ _ hap8).trans HBK.out; have d5 : w7.cell? ⟨mb, 5, none⟩ = some nvr := (by rw [cell_heap d0]; rfl); have f7 := frozen_heap (i := 5) d0; obtain ⟨a7, c7, rfl, _⟩ := hq7.slice))
              all_goals
                have HX := Lib.hid (HPU.out _ _ _ hap8 hq7)
                clear hq7 hap7 hap8 d0 d5 f7
                go_wp2_with fail
                go_roundw
                case rel =>
                  obtain ⟨C11, g1, g2⟩ := HX.out
                  exact ⟨i + 1, by go_num, by omega, Lib.hid ⟨C11, _, _, _, g1, g2⟩⟩
                case measure => simp [intOf]; omega
            · have hkt : (e.kind == 1) = false := by simp [hk1]
              obtain ⟨FF, hFF⟩ : ∃ FF, (0 : Nat) = FF := ⟨_, rfl⟩
              have HFF : Hid ((if e.kind = 1 then AT + 1 else 0) = FF) := Lib.hid (by rw [if_neg hk1]; exact hFF)
              have HF0 := Lib.hid hFF
              clear hk1 hFF
              go_wp2_with fail
              (with_reducible refine (HFD.out _ ?_).mono ?_)
              · exact Eqv.refl _
              rintro r9 w9 ⟨rfl, hw9⟩
              rw [hw9]
              clear hw9 w9
              go_wp2_with fail
              go_region_held3 (fun w' => w'.cell? ⟨w.heap.size, 1, none⟩ = some (.int .i64 e.num) ∧ w'.cell? ⟨w.heap.size, 6, none⟩ = some (.int .i64 e.fr) ∧ w'.cell? ⟨b, o + i * 2 + 1, none⟩ = some (.int .i64 v2) ∧ Below wr.heap.size wr w') (first | exact HS.out _ HDR | exact HS.out _ (HSA.out _ _ HDR) | exact HS.out _ (HSC.out _ _ _ (HSA.out _ _ HDR)) | exact HS.out _ (HSA.out _ _ ‹_›)) (fail)
              obtain ⟨wx, hwx⟩ : ∃ wx, (wr.alloc (.cells #[.int .i64 e.num, .int .i64 e.fr, .int .i64 v2, .int .i64 (AT : Nat), .int .i64 0] 80)).drew = wx := ⟨_, rfl⟩
              have hbx : Below wr.heap.size wr wx := by rw [← hwx]; exact ((Below.refl _ _).alloc (Nat.le_refl _) _).drew
              have hnx' : wx.heap[wr.heap.size]? = some (.cells #[.int .i64 e.num, .int .i64 e.fr, .int .i64 v2, .int .i64 (AT : Nat), .int .i64 0] 80 (0, 0)) := by rw [← hwx]; exact heap_alloc_new wr _
              rw [hwx]
              clear hwx
              have qx0 : wx.cell? ⟨w.heap.size, 0, none⟩ = some (.int .i64 e.kind) := (hbx.cell (p := ⟨w.heap.size, 0, none⟩) (heap_lt HXV.out.2.1.bx)).trans q0
              have hny : wx.heap[wr.heap.size]? = some (.cells #[.int .i64 e.num, .int .i64 e.fr, .int .i64 v2, .int .i64 (AT : Nat), .int .i64 (FF : Nat)] 80 (0, 0)) := by rw [← HF0.out]; exact hnx'
              have hby := hbx
              clear hnx' hbx
              go_wp2_with fail
              clear qx0
              generalize wx = wy at *
              have hWy : RAt Cr wy mb evr ovr nvr (l ++ [⟨e, A, mm, c⟩]) { sm with nodes := D i } := HXV.out.1.below hby
              have hKy : RkAt C w bo Cr wy := HXV.out.2.1.below hby
              obtain ⟨y0, y1, y2, y3, y4, y5⟩ := hWy.cells
              obtain ⟨i3, hi, hz0, hz1, hz2⟩ := info_parts infoRn
              have n0 : wy.cell? ⟨wr.heap.size, 0, none⟩ = some (.int .i64 e.num) := by rw [cell_heap hny]; rfl
              have n1 : wy.cell? ⟨wr.heap.size, 1, none⟩ = some (.int .i64 e.fr) := by rw [cell_heap hny]; rfl
              have n2 : wy.cell? ⟨wr.heap.size, 2, none⟩ = some (.int .i64 v2) := by rw [cell_heap hny]; rfl
              have n3 : wy.cell? ⟨wr.heap.size, 3, none⟩ = some (.int .i64 (AT : Nat)) := by rw [cell_heap hny]; rfl
              have n4 : wy.cell? ⟨wr.heap.size, 4, none⟩ = some (.int .i64 (FF : Nat)) := by rw [cell_heap hny]; rfl
              have ma : ∀ o', (wy.alloc o').cell? ⟨mb, 5, none⟩ = some nvr := fun o' => by rw [cell_heap ((heap_alloc_old wy o' (hWy.lt0 (by rw [hWy.cm]; decide))).trans hWy.blk)]; rfl
              have HQO : Hid (∀ W o', W.heap = (wy.alloc o').heap → QRow W 80 5 nvr (D i).length (rnV (D i))) := Lib.hid fun W o' hq => hWy.nds.keep (fun k hk => by rw [hq]; exact heap_alloc_old _ _ (hWy.lt0 (by rw [hWy.cn k hk]; decide)))
              have HFA : Hid (∀ o' v' w', App (wy.alloc o') w' nvr v' → w'.heap[mb]? = wy.heap[mb]?) := Lib.hid fun o' v' w' hap => (hWy.appC hap 10 hWy.cn (by decide) (by decide)).1 mb (hWy.lt0 (by rw [hWy.cm]; decide)) (by rw [hWy.cm]; decide)
              have HPU : Hid (∀ o' v' w', App (wy.alloc o') w' nvr v' → QRow w' 80 5 v' ((D i).length + 1) (rnV (D i) ++ [.int .i64 e.num, .int .i64 e.fr, .int .i64 v2, .int .i64 (AT : Nat), .int .i64 (FF : Nat)]) → ∃ C', RAt C' (w'.setCell ⟨mb, 5, none⟩ v') mb evr ovr v' (l ++ [⟨e, A, mm, c⟩]) { sm with nodes := D (i + 1) } ∧ RkAt C w bo C' (w'.setCell ⟨mb, 5, none⟩ v')) := Lib.hid fun o' v' w' hap hqr => by
                obtain ⟨g1, g2, g3, g4⟩ := hWy.appC hap 10 hWy.cn (by decide) (by decide)
                obtain ⟨d1, d2, d3⟩ := hWy.setNd (nodes' := D i ++ [⟨e.num, e.fr, v2, AT, FF⟩]) g2 g4 g1 (by rw [List.length_append, rnV_app]; exact hqr) (fun j hj => g3 j hj (hqr.lt j hj))
                rw [HDN.out, HFF.out]
                exact ⟨_, d1, hKy.next d2 d3⟩
              have HBK := Lib.hid hWy.blk
              have hdl2 : (D i).length + 1 ≤ 4294967296 := by have := HDLL.out; omega
              have HDL2 := Lib.hid hdl2
              clear hWy hKy hby hny hdl2 y0 y1 y2 y3 y4
              go_region_law (first | (refine step_qapp rfl (.tmp 166) (.tmp 168) 29 rfl 80 i3 (.agg #[.int .i64 0, .int .i64 0, .int .i64 0, .int .i64 0, .int .i64 0]) 5 40 Tryz.underlying29 hi hz0 hz1 hz2 (by rfl) (by decide) nvr (D i).length (rnV (D i)) (by rfl) ?_ _ _ [.int .i64 e.num, .int .i64 e.fr, .int .i64 v2, .int .i64 (AT : Nat), .int .i64 (FF : Nat)] (by rfl) (heap_alloc_new wy _) (by rfl) (by intro u hu; simp only [List.mem_cons, List.not_mem_nil, or_false] at hu; rcases hu with rfl | rfl | rfl | rfl | rfl <;> rfl) HDL2.out (by decide) ?_; exact HQO.out _ _ rfl; intro v7 w7 hq7 hap7; have hap8 : App (wy.alloc (.cells ([.int .i64 e.num, .int .i64 e.fr, .int .i64 v2, .int .i64 (AT : Nat), .int .i64 (FF : Nat)] : List Value).toArray 80)) w7 nvr v7 := ⟨⟨hap7.grown.os, hap7.grown.tape, hap7.grown.output, hap7.grown.size, hap7.grown.block⟩, hap7.own⟩; have d0 := (HFA.out _ _ _ hap8).trans HBK.out; have d5 : w7.cell? ⟨mb, 5, none⟩ = some nvr := (by rw [cell_heap d0]; rfl); have f7 := frozen_heap (i := 5) d0; obtain ⟨a7, c7, rfl, _⟩ := hq7.slice))
              all_goals
                have HX := Lib.hid (HPU.out _ _ _ hap8 hq7)
                clear hq7 hap7 hap8 d0 d5 f7
                go_wp2_with fail
                go_roundw
                case rel =>
                  obtain ⟨C11, g1, g2⟩ := HX.out
                  exact ⟨i + 1, by go_num, by omega, Lib.hid ⟨C11, _, _, _, g1, g2⟩⟩
                case measure => simp [intOf]; omega
          | some x =>
            obtain ⟨I, hI, hIx, hxn, hfd⟩ := find_some hWr v1 hll HXV.out.2.2.2.2 hx
            have HFD := Lib.hid hfd
            obtain ⟨na, nc, hnv, hnlc, hcell⟩ := hWr.node5
            obtain ⟨g3, off3, rfl, hgl3, _, hfr3, k0, k1, k2, k3, k4⟩ := hcell I hI
            have hIx' : (D i)[I] = x := hIx
            have hI' : I < (D i).length := hI
            have hnv' : nvr = .slice (some ⟨g3, off3, none⟩) (D i).length nc := hnv
            rw [hnv'] at m5
            obtain ⟨NL, hNL⟩ : ∃ NL, (D i).length = NL := ⟨_, rfl⟩
            rw [hNL] at m5
            have j1 : (0 : Int) ≤ (I : Int) := by omega
            have j2 : (I : Int) < (NL : Int) := by omega
            have j3 : decide ((I : Int) < 0) = false := by simp
            by_cases hv2 : v2 = 2
            · subst hv2
              have HDN : Hid (D (i + 1) = (D i).set I { x with truth := 2 }) := Lib.hid (by
                have h1 := modify_map (fun r => { r with truth := 2 }) HXV.out.2.2.2.2 hI'
                rw [hIx', hxn, modify_set _ _ _ hI', hIx'] at h1
                rw [HXV.out.2.2.1]; simp only [rverd, hx, if_true]
                exact h1.symm)
              have hset := hWr.nodeSet hnv (by show 0 < (D i).length; omega) (I * 5 + 2) (.int .i64 2) (nodes' := (D i).set I { x with truth := 2 }) (by simp) (by
                refine rnV_set (D i) I hI' { x with truth := 2 } 2 _ (by decide) ?_
                rw [hIx']; rfl)
              have HFIN := Lib.hid (⟨hset.1, HXV.out.2.1.same hset.2⟩ : _ ∧ _)
              have fr3 := hfr3 (off3 + I * 5 + 2)
              clear hWr hx hset hcell hIx hIx' hnv hnv' hNL hfr3 hfd hxn k0 k1 k3 k4
              go_wp2_with fail
              (with_reducible refine (HFD.out _ ?_).mono ?_)
              · exact Eqv.refl _
              rintro r9 w9 ⟨rfl, rfl⟩
              go_wp2_with fail
              go_roundw
              case rel =>
                refine ⟨i + 1, by go_num, by omega, Lib.hid ⟨Cr, evr, ovr, nvr, ?_, ?_⟩⟩
                · rw [HDN.out]; have := HFIN.out.1; simp only [← Nat.add_assoc] at this; exact this
                · have := HFIN.out.2; simp only [← Nat.add_assoc] at this; exact this
              case measure => simp [intOf]; omega
            · have ht : (v2 == 2) = false := by simp [hv2]
              have HDN : Hid (D (i + 1) = (D i).take I ++ (D i).drop (I + 1)) := Lib.hid (by
                have h1 := erase_filter HXV.out.2.2.2.2 hI'
                rw [hIx', hxn, List.eraseIdx_eq_take_drop_succ] at h1
                rw [HXV.out.2.2.1]; simp only [rverd, hx, if_neg hv2]
                exact h1.symm)
              obtain ⟨i3, hi, hz0, hz1, hz2⟩ := info_parts infoRn
              have hqn : QRow wr 80 5 (.slice (some ⟨g3, off3, none⟩) NL nc) NL (rnV (D i)) := by have := hWr.nds; rw [hnv] at this; rw [← hNL]; exact this
              have hncl : NL ≤ nc := by rw [← hNL]; exact hnlc
              have hcl := fun j u (hj : (rnV (D i))[j]? = some u) => (RNk_cells hqn (by omega) j u hj)
              have hsl1 : ∀ W, (Instr.slice 29 (.slice (some ⟨g3, off3, none⟩) NL nc) none (some (.int .i64 (I : Int))) none).run Tryz.prog W = .ok (.slice (some ⟨g3, off3, none⟩) I nc) W := fun W => by
                rw [run_slice_h (P := Tryz.prog) W 29 (some ⟨g3, off3, none⟩) NL nc (by rw [elemRnodes]; exact Tryz.underlying29) .i64 (I : Int) (by omega) (by omega), elemRnodes, sizeRnode]
                simp [Result.andThen, sliced, Addr.add]
              obtain ⟨A2, hA2⟩ : ∃ A2 : Option Addr, A2 = (if nc = I + 1 then some ⟨g3, off3, none⟩ else some ⟨g3, off3 + (I + 1) * 5, none⟩) := ⟨_, rfl⟩
              have hsl2 : ∀ W, (Instr.slice 29 (.slice (some ⟨g3, off3, none⟩) NL nc) (some (.int .i64 ((I : Int) + 1))) none none).run Tryz.prog W = .ok (.slice A2 (NL - (I + 1)) (nc - (I + 1))) W := fun W => by
                have ec : ((I : Int) + 1) = ((I + 1 : Nat) : Int) := by push_cast; rfl
                rw [ec, run_slice_l (P := Tryz.prog) W 29 (some ⟨g3, off3, none⟩) NL nc (by rw [elemRnodes]; exact Tryz.underlying29) .i64 ((I + 1 : Nat) : Int) (by omega) (by omega), elemRnodes, sizeRnode, hA2]
                simp only [Result.andThen, sliced, Int.toNat_natCast]
                by_cases e0 : nc = I + 1
                · simp [e0]
                · rw [if_neg e0, if_neg e0, Option.map_some, Addr.add_lit]
              have ewI : IntKind.i64.wrap ((I : Int) + 1) = (I : Int) + 1 := IntWalk.i64_in _ (by omega)
              have hlt1 : (rnV ((D i).take I)).length = I * 5 := by rw [rnV_len, List.length_take]; omega
              have hlt2 : (rnV ((D i).drop (I + 1))).length = (NL - (I + 1)) * 5 := by rw [rnV_len, List.length_drop, hNL]
              have hsp : rnV (D i) = rnV ((D i).take I) ++ rnV ((D i).drop I) := by rw [← rnV_app, List.take_append_drop]
              have hsp2 : rnV (D i) = rnV ((D i).take (I + 1)) ++ rnV ((D i).drop (I + 1)) := by rw [← rnV_app, List.take_append_drop]
              have HC1 : Hid (∀ W, Below wr.heap.size wr W → ∀ ad, (some ⟨g3, off3, none⟩ : Option Addr) = some ad → ∀ j u, (rnV ((D i).take I))[j]? = some u → W.cell? (ad.add j) = some u) := Lib.hid fun W hb ad ha j u hj => by
                injection ha with ha; subst ha
                rw [Addr.add_lit, hb.cell (p := ⟨g3, off3 + j, none⟩) hgl3]
                exact hcl j u (by rw [hsp, List.getElem?_append_left (List.getElem?_eq_some_iff.1 hj).1]; exact hj)
              have HC2 : Hid (∀ W, Below wr.heap.size wr W → ∀ ad, A2 = some ad → ∀ j u, (rnV ((D i).drop (I + 1)))[j]? = some u → W.cell? (ad.add j) = some u) := Lib.hid fun W hb ad ha j u hj => by
                have hjl := (List.getElem?_eq_some_iff.1 hj).1
                have hne : ¬ nc = I + 1 := fun e0 => by rw [hlt2] at hjl; omega
                rw [hA2, if_neg hne] at ha
                injection ha with ha; subst ha
                rw [Addr.add_lit, hb.cell (p := ⟨g3, off3 + (I + 1) * 5 + j, none⟩) hgl3, Nat.add_assoc]
                refine hcl _ u ?_
                have h5 : (rnV ((D i).take (I + 1))).length = (I + 1) * 5 := by rw [rnV_len, List.length_take]; omega
                rw [hsp2, List.getElem?_append_right (by omega), h5, Nat.add_sub_cancel_left]; exact hj
              have hA2n : A2 ≠ none := by rw [hA2]; split <;> simp
              have HLT := Lib.hid (⟨hlt1, hlt2, hA2n⟩ : _ ∧ _ ∧ _)
              have hml := heap_lt hWr.blk
              have HM5 : Hid (∀ W, Below wr.heap.size wr W → W.cell? ⟨mb, 5, none⟩ = some (.slice (some ⟨g3, off3, none⟩) NL nc) ∧ W.frozen? ⟨mb, 5, none⟩ = false) := Lib.hid fun W hb => by
                have hbk := (hb.block mb hml).trans hWr.blk
                rw [hnv] at hbk
                refine ⟨by rw [cell_heap hbk, ← hNL]; rfl, frozen_heap hbk⟩
              obtain ⟨NL1, hNL1⟩ : ∃ NL1, I + (NL - (I + 1)) = NL1 := ⟨_, rfl⟩
              have HNL1 := Lib.hid hNL1
              have HFIN : Hid (∀ w6 v6, Below wr.heap.size wr w6 → QRow w6 80 5 v6 NL1 (rnV ((D i).take I) ++ rnV ((D i).drop (I + 1))) → (∀ q, v6.ownBlock = some q → wr.heap.size ≤ q ∧ q < w6.heap.size) → RAt (paint Cr wr w6 10) (w6.setCell ⟨mb, 5, none⟩ v6) mb evr ovr v6 (l ++ [⟨e, A, mm, c⟩]) { sm with nodes := D (i + 1) } ∧ RkAt C w bo (paint Cr wr w6 10) (w6.setCell ⟨mb, 5, none⟩ v6)) := Lib.hid fun w6 v6 hb hq hv => by
                have hpt : Paint Cr (paint Cr wr w6 10) wr w6 := Paint.mk' 10 hWr.top hb.size
                obtain ⟨d1, d2, d3⟩ := hWr.setNd (nodes' := D (i + 1)) hpt (Mv.below hb) (fun j hj _ => hb.block j hj) (v' := v6) (by
                  rw [HDN.out, List.length_append, List.length_take, List.length_drop, rnV_app, hNL]
                  have e1 : min I NL + (NL - (I + 1)) = NL1 := by omega
                  rw [e1]; exact hq) (fun q hq' => paint_new Cr wr w6 10 (hv q hq').1 (hv q hq').2)
                exact ⟨d1, HXV.out.2.1.next d2 d3⟩
              have HB0 := (Below.refl wr.heap.size wr).alloc (Nat.le_refl _) (.cells #[] 80)
              have HB1 : Hid (Below wr.heap.size wr (wr.alloc (.cells #[] 80)).drew) := Lib.hid HB0.drew
              have mz : ∀ o', (wr.alloc o').cell? ⟨mb, 5, none⟩ = some (.slice (some ⟨g3, off3, none⟩) NL nc) := fun o' => (HM5.out _ ((Below.refl wr.heap.size wr).alloc (Nat.le_refl _) o')).1
              have hIb : I + (NL - (I + 1)) ≤ 4294967296 := by omega
              have HIB := Lib.hid (⟨hIb, (by omega : 0 + I ≤ 4294967296)⟩ : _ ∧ _)
              have HONE1 := Lib.hid (rnV_one ((D i).take I))
              have HONE2 := Lib.hid (rnV_one ((D i).drop (I + 1)))
              clear hWr hx hcell hIx hIx' hnv hnv' hNL hfr3 hfd hxn k0 k1 k2 k3 k4 hqn hcl hlt1 hlt2 hsp hsp2 hA2 hA2n hml hIb HB0 hnlc hNL1
              go_wp2_with fail
              (with_reducible refine (HFD.out _ ?_).mono ?_)
              · exact Eqv.refl _
              rintro r9 w9 ⟨rfl, hw9⟩
              rw [hw9]
              clear hw9 w9
              go_wp2_with fail
              go_region_law (first | (refine step_qrow rfl (.tmp 124) (.tmp 130) 29 rfl 80 i3 (.agg #[.int .i64 0, .int .i64 0, .int .i64 0, .int .i64 0, .int .i64 0]) 5 40 Tryz.underlying29 hi hz0 hz1 hz2 (by rfl) (by decide) (.slice (some ⟨wr.heap.size, 0, none⟩) 0 0) 0 [] (by rfl) (QRow.nil _ _ _ _) (some ⟨g3, off3, none⟩) I nc (rnV ((D i).take I)) (by rfl) HLT.out.1 ?_ (by intro hh; cases hh) HONE1.out HIB.out.2 (by decide) ?_; exact HC1.out _ HB1.out; intro v5 w5 hq5 hap5 hlt5; have hb5 := HB1.out.trans (hap5.below (B := wr.heap.size) HB1.out.size (fun q hq' => Nat.le_of_eq (by simpa [Value.ownBlock] using hq'))); have hv5 : (∀ q, v5.ownBlock = some q → wr.heap.size ≤ q) := (fun q hq' => by rcases hap5.own with e0 | ⟨q2, e0, e1⟩; (rw [e0] at hq'; exact Nat.le_of_eq (by simpa [Value.ownBlock] using hq')); (rw [e0] at hq'; injection hq' with hq'; have := HB1.out.size; omega)); have hl5 := hlt5 (fun q hq' => by have e0 : wr.heap.size = q := (by simpa [Value.ownBlock] using hq'); have := HB1.out.size; have e1 : (wr.alloc (.cells #[] 80)).drew.heap.size = wr.heap.size + 1 := (by simp); show q < (wr.alloc (.cells #[] 80)).drew.heap.size; omega); have hq5b : QRow w5 80 5 v5 I (rnV ((D i).take I)) := (by simpa using hq5); have z5 := (HM5.out _ hb5).1; obtain ⟨a5, c5, rfl, _⟩ := hq5b.slice) | (refine step_qrow rfl (.tmp 131) (.tmp 138) 29 rfl 80 i3 (.agg #[.int .i64 0, .int .i64 0, .int .i64 0, .int .i64 0, .int .i64 0]) 5 40 Tryz.underlying29 hi hz0 hz1 hz2 (by rfl) (by decide) (.slice a5 I c5) I (rnV ((D i).take I)) (by rfl) hq5b A2 (NL - (I + 1)) (nc - (I + 1)) (rnV ((D i).drop (I + 1))) (by rfl) HLT.out.2.1 ?_ (fun hh => absurd hh HLT.out.2.2) HONE2.out HIB.out.1 (by decide) ?_; exact HC2.out _ hb5; intro v6 w6 hq6 hap6 hlt6; have hb6 := hb5.trans (hap6.below (B := wr.heap.size) hb5.size hv5); have hv6 : (∀ q, v6.ownBlock = some q → wr.heap.size ≤ q ∧ q < w6.heap.size) := (fun q hq' => ⟨(by rcases hap6.own with e0 | ⟨q2, e0, e1⟩; (rw [e0] at hq'; exact hv5 q hq'); (rw [e0] at hq'; injection hq' with hq'; have := hb5.size; omega)), hlt6 hl5 q hq'⟩); have hq6b : QRow w6 80 5 v6 NL1 (rnV ((D i).take I) ++ rnV ((D i).drop (I + 1))) := (by rw [← HNL1.out]; exact hq6); have z6 := (HM5.out _ hb6).1; have f6 := (HM5.out _ hb6).2; obtain ⟨a6, c6, rfl, _⟩ := hq6b.slice))
              all_goals
                have HX := Lib.hid (HFIN.out _ _ hb6 hq6b hv6)
                clear hq5 hq5b hap5 hlt5 hl5 hb5 hv5 hq6 hq6b hap6 hlt6 hb6 hv6 z5 z6 f6
                go_wp2_with fail
                go_roundw
                case rel => exact ⟨i + 1, by go_num, by omega, Lib.hid ⟨_, _, _, _, HX.out.1, HX.out.2⟩⟩
                case measure => simp [intOf]; omega
        · have hik : i = k := by omega
          subst hik
          have htk : vs.take i = vs := List.take_of_length_le (by rw [← HKL.out]; exact Nat.le_refl _)
          have hDk : D i = vs.foldl (rverd (wOf e) AT) (rwhole (wOf e) AT m.nodes) := by rw [HD.out.1, htk, HSM.out.2.1]
          have hTD : tellR (m.evs ++ [wOf e]) (D i) = T := by rw [hDk, ← HTT.out, HW3.out.2.1]
          have hgd : ∀ r ∈ D i, r.bgn < AT + 1 ∧ r.fin ≤ AT + 1 ∧ (0 < r.fin → r.bgn < r.fin) := by
            have := HV.out.2.2.2.2.1
            rw [HW3.out.2.1] at this
            rw [hDk]; exact this
          have hdl : (D i).length ≤ 1048576 := by have := HD.out.2.2.2.1 i (by rw [← HKL.out]; exact Nat.le_refl _); omega
          have hsme : sm.evs = m.evs ++ [wOf e] := HSM.out.2.2.1
          have HDI := Lib.hid (⟨hTD, hgd, hWr, hKr⟩ : _ ∧ _ ∧ _ ∧ _)
          obtain ⟨m0, m1, m2, m3, m4, m5⟩ := hWr.cells
          have hmlt := heap_lt hWr.blk
          obtain ⟨R0, hR0⟩ : ∃ R0, D i = R0 := ⟨_, rfl⟩
          rw [hR0] at HDI hdl hWr
          have hEL : (l ++ [(⟨e, A, mm, c⟩ : ER)]).length = AT + 1 := by rw [List.length_append, HW3.out.2.2, HW3.out.2.1]; rfl
          have hwpr : ∀ b f : Nat, wprn (((m.evs ++ [wOf e]).take f).drop b) = (((((l ++ [(⟨e, A, mm, c⟩ : ER)]).map (·.e)).take f).drop b).flatMap evOut) := fun b f => by
            have h1 : m.evs ++ [wOf e] = (l ++ [(⟨e, A, mm, c⟩ : ER)]).map (fun r => wOf r.e) := by rw [← hsme, hWr.evm]
            rw [h1]
            simp only [wprn, ← List.map_take, ← List.map_drop, List.flatMap_map]
            rfl
          have hokl : ∀ x ∈ (l ++ [(⟨e, A, mm, c⟩ : ER)]).map (·.e), EvOk x := by
            intro x hx
            obtain ⟨r, hr, rfl⟩ := List.mem_map.1 hx
            rcases List.mem_append.1 hr with hr | hr
            · exact HV.out.2.2.2.2.2.2.1 r hr
            · rw [List.mem_singleton.1 hr]; exact HV.out.2.2.2.2.2.2.2
          have HEL := Lib.hid (⟨hEL, hwpr, hokl⟩ : _ ∧ _ ∧ _)
          have hszr := hKr.mv.size
          clear hTD hgd hWr hKr htk hDk hR0 hEL hwpr hokl hsme
          generalize wr = wz at *
          go_wp2_with fail
          clear m0 m1 m2 m3 m4 m5
          go_loopw [13] (fun ov wr => ∃ (rs : List RNd) (its : List (Int × List UInt8)) (ia : Option Addr) (ic n : Nat), ov = .slice ia n ic ∧ n + rs.length ≤ 1048576 ∧ Hid (n = its.length ∧ (∃ Cx nvx, RAt Cx wr mb evr ovr nvx (l ++ [(⟨e, A, mm, c⟩ : ER)]) { sm with nodes := rs } ∧ RkAt C w bo Cx wr ∧ ItemsQ Cx w.heap.size wr (.slice ia n ic) its) ∧ T = (its ++ (tellR (m.evs ++ [wOf e]) rs).1, (tellR (m.evs ++ [wOf e]) rs).2) ∧ (∀ r ∈ rs, r.bgn < AT + 1 ∧ r.fin ≤ AT + 1 ∧ (0 < r.fin → r.bgn < r.fin)))) (fun _ wr => match wr.cell? ⟨mb, 5, none⟩ with | some (.slice _ n _) => n | _ => 0)
          case atStart => exact ⟨R0, [], none, 0, 0, rfl, by omega, Lib.hid ⟨rfl, ⟨Cr, nvr, HDI.out.2.2.1, HDI.out.2.2.2, ⟨QRow.nil _ _ _ _, fun k hk => by cases hk⟩⟩, by rw [HDI.out.1]; rfl, HDI.out.2.1⟩⟩
          case round =>
            obtain ⟨rs, its, ia, ic, n, rfl, hnr, HR2⟩ := hrel
            obtain ⟨hn, ⟨Cx, nvx, hWx, hKx, hIx⟩, hTx, hgx⟩ := HR2.out
            obtain ⟨m0, m1, m2, m3, m4, m5⟩ := hWx.cells
            obtain ⟨na, nc, hnv, hnlc, hcell⟩ := hWx.node5
            have hnv' : nvx = .slice na rs.length nc := hnv
            rw [hnv'] at m5
            have hfin : T = (its, rs) → RetRTake C w mb (l ++ [(⟨e, A, mm, c⟩ : ER)]) T.1 0 S9 (.returned (.tuple #[.slice ia n ic, .int .i64 0])) wr := fun hT2 => by
              rw [hT2]
              refine ⟨Cx, evr, ovr, nvx, ia, ic, by rw [hn], ?_, by rw [← hn]; exact hIx, hKx.mv, hKx.pt⟩
              rw [HS9.out, hT2, ← HSM.out.1]; exact hWx
            have HFIN := Lib.hid hfin
            clear hfin
            cases rs with
            | nil =>
              have hT2 : T = (its, []) := by rw [hTx]; simp [tellR]
              have HT2 := Lib.hid hT2
              simp only [List.length_nil] at m5
              clear hn hWx hKx hTx hIx hgx hcell hnv hnv' hT2 m0 m1 m2 m3 m4
              go_wp2_with fail
              go_ret2
              exact HFIN.out HT2.out
            | cons r rs =>
              obtain ⟨gn, on, rfl, hgln, _, _, k0, k1, k2, k3, k4⟩ := hcell 0 (by show 0 < (r :: rs).length; simp)
              simp only [Nat.zero_mul, Nat.add_zero] at k0 k1 k2 k3 k4
              have er0 : ({ sm with nodes := r :: rs } : RSt).nodes[0]'(by show 0 < (r :: rs).length; simp) = r := rfl
              rw [er0] at k0 k1 k2 k3 k4
              have hTR : tellR (m.evs ++ [wOf e]) (r :: rs) = if r.truth = 2 ∧ 0 < r.fin then ((r.num, wprn (((m.evs ++ [wOf e]).take r.fin).drop r.bgn)) :: (tellR (m.evs ++ [wOf e]) rs).1, (tellR (m.evs ++ [wOf e]) rs).2) else ([], r :: rs) := rfl
              obtain ⟨NL, hNL⟩ : ∃ NL, (r :: rs).length = NL := ⟨_, rfl⟩
              have hNL' : rs.length + 1 = NL := by rw [← hNL]; rfl
              rw [hNL] at m5
              have j1 : (0 : Int) < (NL : Int) := by omega
              have j1' : 0 < NL := by omega
              by_cases hc2 : r.truth = 2
              · rw [hc2] at k2
                by_cases hc3 : 0 < r.fin
                · obtain ⟨A2, c2, hsl, hES⟩ := hWx.sub r.bgn r.fin ((hgx r (List.mem_cons_self ..)).2.2 hc3) (by rw [HEL.out.1]; exact (hgx r (List.mem_cons_self ..)).2.1)
                  obtain ⟨pc, hpc⟩ : ∃ pc, wprn (((m.evs ++ [wOf e]).take r.fin).drop r.bgn) = pc := ⟨_, rfl⟩
                  rw [if_pos ⟨hc2, hc3⟩, hpc] at hTR
                  have hg1 := hgx r (List.mem_cons_self ..)
                  have hpc2 := HEL.out.2.1 r.bgn r.fin
                  rw [hpc] at hpc2
                  obtain ⟨i5, hi, hz0, hz1, hz2⟩ := info_parts infoItem
                  obtain ⟨wx, hwx⟩ : ∃ wx, wr.alloc (.cells #[.int .i64 r.num, .int .i64 r.frm, .int .i64 2, .int .i64 (r.bgn : Nat), .int .i64 (r.fin : Nat)] 80) = wx := ⟨_, rfl⟩
                  have hbx : Below wr.heap.size wr wx := by rw [← hwx]; exact (Below.refl _ _).alloc (Nat.le_refl _) _
                  have hsx : wx.heap.size = wr.heap.size + 1 := by rw [← hwx]; simp
                  have hnx' : wx.heap[wr.heap.size]? = some (.cells #[.int .i64 r.num, .int .i64 r.frm, .int .i64 2, .int .i64 (r.bgn : Nat), .int .i64 (r.fin : Nat)] 80 (0, 0)) := by rw [← hwx]; exact heap_alloc_new wr _
                  have hblkx := (hbx.block mb (heap_lt hWx.blk)).trans hWx.blk
                  have hmbl := heap_lt hWx.blk
                  have HS : Hid (∀ W : World, W.heap[wr.heap.size]? = wx.heap[wr.heap.size]? → W.heap[mb]? = wx.heap[mb]? → (W.cell? ⟨wr.heap.size, 0, none⟩ = some (.int .i64 r.num) ∧ W.cell? ⟨wr.heap.size, 3, none⟩ = some (.int .i64 (r.bgn : Nat)) ∧ W.cell? ⟨wr.heap.size, 4, none⟩ = some (.int .i64 (r.fin : Nat)) ∧ W.cell? ⟨mb, 0, none⟩ = some evr)) := Lib.hid fun W h1 h2 => by
                    rw [hnx'] at h1
                    rw [hblkx] at h2
                    simp only [cell_heap h1, cell_heap h2]
                    exact ⟨rfl, rfl, rfl, rfl⟩
                  have HS0 := Lib.hid (HS.out wx.drew rfl rfl)
                  have HS1 : Hid (∀ W, Below wx.heap.size wx W → (W.cell? ⟨wr.heap.size, 0, none⟩ = some (.int .i64 r.num) ∧ W.cell? ⟨wr.heap.size, 3, none⟩ = some (.int .i64 (r.bgn : Nat)) ∧ W.cell? ⟨wr.heap.size, 4, none⟩ = some (.int .i64 (r.fin : Nat)) ∧ W.cell? ⟨mb, 0, none⟩ = some evr)) := Lib.hid fun W hb => HS.out W (hb.block _ (by omega)) (hb.block _ (by omega))
                  have HS2 : Hid (∀ W o, Below wx.heap.size wx W → ((W.alloc o).cell? ⟨wr.heap.size, 0, none⟩ = some (.int .i64 r.num) ∧ (W.alloc o).cell? ⟨wr.heap.size, 3, none⟩ = some (.int .i64 (r.bgn : Nat)) ∧ (W.alloc o).cell? ⟨wr.heap.size, 4, none⟩ = some (.int .i64 (r.fin : Nat)) ∧ (W.alloc o).cell? ⟨mb, 0, none⟩ = some evr)) := Lib.hid fun W o hb => HS1.out _ (hb.alloc hb.size o)
                  have HPR : Hid (∀ W, Eqv wx W → Calls Tryz.prog 26 #[.slice A2 (r.fin - r.bgn) c2] W fun e' w' => e' = .returned (.string (strL pc)) ∧ Below wx.heap.size wx w') := Lib.hid fun W hq => by
                    have hEW := (hES.below hbx).below hq.below
                    have hsub : ∀ x ∈ (((l ++ [(⟨e, A, mm, c⟩ : ER)]).map (·.e)).take r.fin).drop r.bgn, EvOk x := fun x hx => HEL.out.2.2 x (List.mem_of_mem_take (List.mem_of_mem_drop hx))
                    refine (print8_any A2 (r.fin - r.bgn) c2 _ W hEW (by omega) (fun x hx W' A' m' c' hA' => ?_) (fun x hx => ?_)).mono ?_
                    · have hx' := hsub x hx
                      have hw := hx'.wt
                      have h8 := evOut_len x
                      unfold wtE at hw
                      have hal : ∀ p ∈ x.ats, p.1.length ≤ 1048576 ∧ p.2.length ≤ 1048576 := fun p hp => by have := wtA_mem x.ats p hp; omega
                      have hml : m' ≤ 1048576 := by have := wtA_length x.ats; have := hA'.1; omega
                      exact event8_any x.kind x.num x.dep x.fr x.tt x.name x.text A' m' c' x.ats W' hA' hx'.kind (by omega) (by omega) hml hal (by
                        have := attrs_len8 x.ats; omega)
                    · have h8 := evOut_len x
                      have := (hsub x hx).wt
                      omega
                    · rintro e' w' ⟨rfl, hb'⟩
                      exact ⟨by rw [hpc2], hq.below.trans (hb'.mono (by rw [hq.size]; exact Nat.le_refl _))⟩
                  have hIq := hIx.row
                  rw [← hn] at hIq
                  have HQI : Hid (∀ W o W', Below wx.heap.size wx W → W'.heap = (W.alloc o).heap → QRow W' 51 2 (.slice ia n ic) n (itemsV its)) := Lib.hid fun W o W' hb hW' => hIq.keep (fun q hq => by
                    have := (hIx.col q hq).2.1
                    rw [hW', heap_alloc_old _ _ (by have := hb.size; omega), hb.block q (by omega), hbx.block q (by omega)])
                  have HAP : Hid (∀ W o v' w7, Below wx.heap.size wx W → App (W.alloc o) w7 (.slice ia n ic) v' → (∀ q, q < wx.heap.size → q < w.heap.size ∨ Cx q ≠ 11 → w7.heap[q]? = wx.heap[q]?) ∧ wx.heap.size ≤ w7.heap.size ∧ (w7.os = wr.os ∧ w7.tape = wr.tape ∧ w7.output = wr.output) ∧ ∀ q, v'.ownBlock = some q → w.heap.size ≤ q ∧ (Cx q = 11 ∧ q < wr.heap.size ∨ wr.heap.size ≤ q)) := Lib.hid fun W o v' w7 hb hap => by
                    have hg := hap.grown
                    have hsz := hb.size
                    have hrw := hKx.mv.size
                    refine ⟨fun q hq hc => (hg.block q (by simp; omega) (fun e0 => ?_)).trans ((heap_alloc_old _ _ (by omega)).trans (hb.block q hq)), by have := hg.size; simp at this; omega, ⟨hg.os.trans (hb.os.trans hbx.os), hg.tape.trans (hb.tape.trans hbx.tape), hg.output.trans (hb.output.trans hbx.output)⟩, fun q hq => ?_⟩
                    · have h1 := hIx.col q e0.symm
                      rcases hc with h2 | h2 <;> omega
                    · rcases hap.own with e0 | ⟨g0, e0, e1⟩
                      · rw [e0] at hq
                        have h1 := hIx.col q hq
                        exact ⟨h1.1, .inl ⟨h1.2.2, h1.2.1⟩⟩
                      · rw [e0] at hq; injection hq with hq
                        simp at e1
                        exact ⟨by omega, .inr (by omega)⟩
                  have hWq := hWx.nds
                  rw [hnv] at hWq
                  have hWq2 : QRow wr 80 5 (.slice (some ⟨gn, on, none⟩) (rs.length + 1) nc) (rs.length + 1) ([.int .i64 r.num, .int .i64 r.frm, .int .i64 r.truth, .int .i64 (r.bgn : Nat), .int .i64 (r.fin : Nat)] ++ rnV rs) := hWq
                  obtain ⟨v9, hs9, hq9, hb9⟩ := hWq2.tail1 (P := Tryz.prog) (ys := [.int .i64 r.num, .int .i64 r.frm, .int .i64 r.truth, .int .i64 (r.bgn : Nat), .int .i64 (r.fin : Nat)]) 29 Tryz.underlying29 elemRnodes sizeRnode rfl
                  obtain ⟨a9, c9, rfl, _⟩ := hq9.slice
                  rw [hNL'] at hs9
                  have HFI2 : Hid (∀ W o v' w7, Below wx.heap.size wx W → App (W.alloc o) w7 (.slice ia n ic) v' → QRow w7 51 2 v' (n + 1) (itemsV its ++ [.int .i64 r.num, .string (strL pc)]) → (∀ q, v'.ownBlock = some q → q < w7.heap.size) →
                      (w7.cell? ⟨mb, 5, none⟩ = some (.slice (some ⟨gn, on, none⟩) NL nc) ∧ w7.frozen? ⟨mb, 5, none⟩ = false ∧ (w7.cell? ⟨wr.heap.size, 0, none⟩ = some (.int .i64 r.num) ∧ w7.cell? ⟨wr.heap.size, 3, none⟩ = some (.int .i64 (r.bgn : Nat)) ∧ w7.cell? ⟨wr.heap.size, 4, none⟩ = some (.int .i64 (r.fin : Nat)) ∧ w7.cell? ⟨mb, 0, none⟩ = some evr) ∧
                      ∃ C9, RAt C9 (w7.setCell ⟨mb, 5, none⟩ (.slice a9 rs.length c9)) mb evr ovr (.slice a9 rs.length c9) (l ++ [(⟨e, A, mm, c⟩ : ER)]) { sm with nodes := rs } ∧ RkAt C w bo C9 (w7.setCell ⟨mb, 5, none⟩ (.slice a9 rs.length c9)) ∧ ItemsQ C9 w.heap.size (w7.setCell ⟨mb, 5, none⟩ (.slice a9 rs.length c9)) v' (its ++ [(r.num, pc)]))) := Lib.hid fun W o v' w7 hb hap hq7 hvl => by
                    obtain ⟨h1, h2, ⟨h3, h3', h3''⟩, h4⟩ := HAP.out W o v' w7 hb hap
                    have hmb7 : Cx mb = 7 := hWx.cm
                    have hblk7 : w7.heap[mb]? = wr.heap[mb]? := (h1 mb (by omega) (.inr (by omega))).trans (hbx.block mb hmbl)
                    have hob : ∀ q, q < wr.heap.size → Cx q ≠ 11 → w7.heap[q]? = wr.heap[q]? := fun q hq hc => (h1 q (by omega) (.inr hc)).trans (hbx.block q hq)
                    have hptx : Paint Cx (paint Cx wr w7 11) wr w7 := Paint.mk' 11 hWx.top (by omega)
                    have hW7 : RAt (paint Cx wr w7 11) w7 mb evr ovr nvx (l ++ [(⟨e, A, mm, c⟩ : ER)]) { sm with nodes := r :: rs } := hWx.keep hptx (by omega) (fun q hq hc => hob q hq (by omega))
                    have hbw := heap_lt hKx.bx
                    have hKsz := hKx.mv.size
                    have hK7 : RkAt C w bo (paint Cx wr w7 11) w7 := ⟨⟨h3.trans hKx.mv.os, h3'.trans hKx.mv.tape, h3''.trans hKx.mv.output, by omega, fun q hq hc => ((h1 q (by omega) (.inl hq)).trans (hbx.block q (by omega))).trans (hKx.mv.block q hq hc)⟩, hKx.pt.trans hKsz hptx, (hob w.heap.size hbw (by rw [hKx.bc]; decide)).trans hKx.bx, (hptx.old _ hbw).trans hKx.bc⟩
                    obtain ⟨d1, d2, d3⟩ := hW7.setNd (nodes' := rs) (Paint.refl hW7.top (Nat.le_refl _)) (Mv.refl _ 7 11 w7) (fun _ _ _ => rfl) (v' := .slice a9 rs.length c9) (hq9.keep (fun q hq => hob q (hWx.lt0 (by rw [hWx.cn q (by rw [hnv]; exact hb9 q hq)]; decide)) (by rw [hWx.cn q (by rw [hnv]; exact hb9 q hq)]; decide))) (fun q hq => hW7.cn q (by rw [hnv]; exact hb9 q hq))
                    have hblk8 := hblk7.trans hWx.blk
                    rw [hnv'] at hblk8
                    refine ⟨by rw [cell_heap hblk8, ← hNL]; rfl, frozen_heap hblk8, HS.out w7 (h1 _ (by omega) (.inr (by rw [hWx.top _ (Nat.le_refl _)]; decide))) (h1 mb (by omega) (.inr (by omega))), _, d1, hK7.same d2, ⟨?_, fun q hq => ?_⟩⟩
                    · rw [itemsV_snoc, List.length_append, ← hn]
                      refine hq7.keep (fun q hq => Below.heap_setCell _ _ _ _ (fun e0 => ?_))
                      have e1 : q = mb := e0
                      rcases (h4 q hq).2 with ⟨h5, h6⟩ | h5
                      · rw [e1] at h5; omega
                      · omega
                    · have h5 := h4 q hq
                      have h6 := hvl q hq
                      have hsz8 : (w7.setCell ⟨mb, 5, none⟩ (.slice a9 rs.length c9)).heap.size = w7.heap.size := by simp [World.setCell]
                      refine ⟨h5.1, by omega, ?_⟩
                      rcases h5.2 with ⟨h7, h8⟩ | h7
                      · exact (hptx.old q h8).trans h7
                      · exact paint_new Cx wr w7 11 h7 h6
                  have HTN : Hid (T = ((its ++ [(r.num, pc)]) ++ (tellR (m.evs ++ [wOf e]) rs).1, (tellR (m.evs ++ [wOf e]) rs).2)) := Lib.hid (by rw [hTx, hTR]; simp)
                  have HGX : Hid (∀ x ∈ rs, x.bgn < AT + 1 ∧ x.fin ≤ AT + 1 ∧ (0 < x.fin → x.bgn < x.fin)) := Lib.hid fun x hx => hgx x (List.mem_cons_of_mem _ hx)
                  have HWX := Lib.hid hwx
                  have HN := Lib.hid hn
                  have HNL := Lib.hid (⟨hNL', hWx.cells.2.2.2.2.2, hnv'⟩ : _ ∧ _ ∧ _)
                  have hnle : n + 1 ≤ 4294967296 := by omega
                  have HNLE := Lib.hid hnle
                  clear hn hWx hKx hTx hIx hgx hcell hnv hnv' hTR er0 hNL hwx hbx hsx hnx' hblkx hmbl hES hpc hg1 hpc2 hIq hWq hWq2 hq9 hb9 m0 m1 m2 m3 m4 hnle
                  have hc3' : (0 : Int) < (r.fin : Int) := by omega
                  generalize r.num = rn at *
                  generalize r.frm = rf at *
                  generalize r.bgn = rb at *
                  generalize r.fin = rfi at *
                  go_wp2_with fail
                  simp only [HWX.out]
                  go_region_held3 (fun w' => w'.cell? ⟨wr.heap.size, 0, none⟩ = some (.int .i64 rn) ∧ w'.cell? ⟨wr.heap.size, 3, none⟩ = some (.int .i64 (rb : Nat)) ∧ w'.cell? ⟨wr.heap.size, 4, none⟩ = some (.int .i64 (rfi : Nat)) ∧ w'.cell? ⟨mb, 0, none⟩ = some evr) (first | exact HS0.out | exact hF7.2.2.1 | exact HS2.out _ _ ‹_› | exact HS1.out _ ‹_›) (first | (go_at_call 26; (with_reducible refine (HPR.out _ ?_).mono ?_); exact ⟨_, rfl⟩; rintro e9 w9 ⟨rfl, hb9⟩) | (refine step_qapp rfl (.tmp 218) (.tmp 232) 40 rfl 51 i5 (.agg #[.int .i64 0, .string ⟨#[]⟩]) 2 24 Tryz.underlying40 hi hz0 hz1 hz2 (by rfl) (by decide) (.slice ia n ic) n (itemsV its) (by rfl) ?_ _ _ [.int .i64 rn, .string (strL pc)] (by rfl) (heap_alloc_new _ _) (by rfl) (by intro u hu; simp only [List.mem_cons, List.not_mem_nil, or_false] at hu; rcases hu with rfl | rfl <;> rfl) HNLE.out (by decide) ?_; exact HQI.out _ _ _ hb9 rfl; intro v7 w7 hq7 hap7; have hF7 := HFI2.out _ _ _ _ hb9 hap7 hq7 hq7.lt; obtain ⟨a7, c7, rfl, _⟩ := hq7.slice))
                  obtain ⟨z5, f5, _, hX⟩ := hF7
                  have HX := Lib.hid hX
                  clear hX hq7 hap7 hb9
                  go_wp2_with fail
                  go_roundw
                  case rel =>
                    obtain ⟨C9, g1, g2, g3⟩ := HX.out
                    exact ⟨rs, its ++ [(rn, pc)], a7, c7, n + 1, by first | rfl | go_num, by have := HNL.out.1; simp only [List.length_cons] at hnr; omega, Lib.hid ⟨by rw [HN.out]; simp, ⟨C9, _, g1, g2, g3⟩, HTN.out, HGX.out⟩⟩
                  case measure =>
                    obtain ⟨C9, g1, _, _⟩ := HX.out
                    have e1 := g1.cells.2.2.2.2.2
                    have e2 := HNL.out.2.1
                    rw [HNL.out.2.2] at e2
                    simp only [e1, e2]
                    simp
                · have hT2 : T = (its, r :: rs) := by rw [hTx, hTR, if_neg (fun h => hc3 h.2)]; simp
                  have HT2 := Lib.hid hT2
                  have hf0 : r.fin = 0 := by omega
                  rw [hf0] at k4
                  clear hn hWx hKx hTx hIx hgx hcell hnv hnv' hT2 hTR er0 hNL hc2 hc3 hf0 m0 m1 m2 m3 m4
                  go_wp2_with fail
                  go_ret2
                  exact HFIN.out HT2.out
              · have hT2 : T = (its, r :: rs) := by rw [hTx, hTR, if_neg (fun h => hc2 h.1)]; simp
                have HT2 := Lib.hid hT2
                have ht : (r.truth == 2) = false := by simp [hc2]
                clear hn hWx hKx hTx hIx hgx hcell hnv hnv' hT2 hTR er0 hNL hc2 m0 m1 m2 m3 m4
                generalize r.truth = rt at *
                go_wp2_with fail
                go_ret2
                exact HFIN.out HT2.out
end Go.Proofs.YtmnloeolacmemaaGreat
