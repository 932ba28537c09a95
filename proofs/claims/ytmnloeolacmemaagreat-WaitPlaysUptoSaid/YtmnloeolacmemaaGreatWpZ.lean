/-
  The law's one: a call of both sides.
-/
import Derived.Test.YtmnloeolacmemaaGreatWpY
import Derived.Deep.CutRange
import Derived.Deep.CutBlock
namespace Go.Proofs.YtmnloeolacmemaaGreat
open Go.RowKit

theorem infoVerd : (Tryz.prog.info? 49).map (fun i => (i.zero, i.size, i.bytes)) = some (some (.agg #[.int .i64 0, .int .i64 0]), 2, 16) := by kernel_rfl
/-- the three boxes of one -/
structure Bx (w W : World) (B : Nat) (oc e1 e2 : Array Value) : Prop where
  b : Below w.heap.size w W
  lo : w.heap.size < B
  bo : W.heap[w.heap.size]? = some (.cells oc 39 (0, 0))
  be : W.heap[B]? = some (.cells e1 36 (0, 0))
  bm : W.heap[B + 1]? = some (.cells e2 36 (0, 0))
theorem Bx.keep {w W W' : World} {B : Nat} {oc e1 e2 : Array Value} (h : Bx w W B oc e1 e2) (hb : Below (B + 2) W W') : Bx w W' B oc e1 e2 :=
  ⟨h.b.trans (hb.mono (by have := h.lo; omega)), h.lo, (hb.block _ (by have := h.lo; omega)).trans h.bo, (hb.block _ (by omega)).trans h.be, (hb.block _ (by omega)).trans h.bm⟩
theorem Bx.size {w W : World} {B : Nat} {oc e1 e2 : Array Value} (h : Bx w W B oc e1 e2) : B + 2 ≤ W.heap.size := by have := heap_lt h.bm; omega
theorem Bx.setM {w W : World} {B : Nat} {oc e1 e2 e3 : Array Value} (h : Bx w W B oc e1 e2) (i : Nat) (v : Value) (he : e2.setIfInBounds i v = e3) : Bx w (W.setCell ⟨B + 1, i, none⟩ v) B oc e1 e3 := by
  subst he
  have hlo := h.lo
  refine ⟨⟨h.b.os, h.b.tape, h.b.output, by simp [World.setCell]; exact h.b.size, fun k hk => ?_⟩, h.lo, ?_, ?_, setCell_heap h.bm v⟩
  · exact (Below.heap_setCell _ _ _ _ (fun e => by have e' : k = B + 1 := e; omega)).trans (h.b.block k hk)
  · exact (Below.heap_setCell _ _ _ _ (fun e => by have e' : w.heap.size = B + 1 := e; omega)).trans h.bo
  · exact (Below.heap_setCell _ _ _ _ (fun e => by have e' : B = B + 1 := e; omega)).trans h.be
/-- the three boxes, behind calls that turn other blocks -/
structure Bq (W : World) (S B : Nat) (oc e1 e2 : Array Value) : Prop where
  bo : W.heap[S]? = some (.cells oc 39 (0, 0))
  be : W.heap[B]? = some (.cells e1 36 (0, 0))
  bm : W.heap[B + 1]? = some (.cells e2 36 (0, 0))
theorem Bx.q {w W : World} {B : Nat} {oc e1 e2 : Array Value} (h : Bx w W B oc e1 e2) : Bq W w.heap.size B oc e1 e2 := ⟨h.bo, h.be, h.bm⟩
theorem Bq.mv {C : Nat → Nat} {lo hi : Nat} {W W' : World} {S B : Nat} {oc e1 e2 : Array Value} (h : Bq W S B oc e1 e2) (hm : Mv C lo hi W W') (hlo : 1 ≤ lo) (h1 : C S = 0) (h2 : C B = 0) (h3 : C (B + 1) = 0) : Bq W' S B oc e1 e2 :=
  ⟨(hm.block _ (heap_lt h.bo) (by rw [h1]; omega)).trans h.bo, (hm.block _ (heap_lt h.be) (by rw [h2]; omega)).trans h.be, (hm.block _ (heap_lt h.bm) (by rw [h3]; omega)).trans h.bm⟩
theorem Bq.below {W W' : World} {S B : Nat} {oc e1 e2 : Array Value} (h : Bq W S B oc e1 e2) (hb : Below W.heap.size W W') : Bq W' S B oc e1 e2 := h.mv (C := fun _ => 0) (Mv.below (lo := 1) (hi := 1) hb) (Nat.le_refl _) rfl rfl rfl
theorem Mv.bel {C : Nat → Nat} {lo hi S0 : Nat} {w0 w w' : World} (hm : Mv C lo hi w w') (hlo : 1 ≤ lo) (h0 : ∀ k, k < S0 → C k = 0) (hb : Below S0 w0 w) (hs : S0 ≤ w.heap.size) : Below S0 w0 w' :=
  ⟨hm.os.trans hb.os, hm.tape.trans hb.tape, hm.output.trans hb.output, Nat.le_trans hb.size hm.size, fun k hk => (hm.block k (Nat.lt_of_lt_of_le hk hs) (by rw [h0 k hk]; omega)).trans (hb.block k hk)⟩
/-- what the program's Take leaves, its slots taken off -/
def TkPost (C : Nat → Nat) (w7 : World) (wb tb pm n k : Nat) (its : List (Int × List UInt8)) (s' : WSt) (m' : RSt) (v : Value) (wx : World) : Prop :=
  ∃ front' C8 fp8 ov8 lv8 first8 n8, WFront m' front' ∧ WAt C8 wx wb tb pm fp8 ov8 lv8 s' first8 front' n8 ∧ ItemsAt C8 w7.heap.size wx v its ∧ Mv C 1 7 w7 wx ∧ Paint C C8 w7 wx ∧ n8 ≤ n + k
theorem fixed_bounds (o : Ev) (num fr tt : Int) (name : List UInt8) (q : Nat) (hq : q ≤ 1048576) (hn : name = o.name ∨ o.kind = 2 ∧ name.length ≤ q) :
    name.length ≤ q + wtE o ∧ wtE ⟨o.kind, num, o.dep, name, o.ats, o.text, fr, tt⟩ ≤ q + wtE o ∧ (evOut ⟨o.kind, num, o.dep, name, o.ats, o.text, fr, tt⟩).length ≤ 600000 * (wtE o + 2) := by
  rcases hn with rfl | ⟨hk, hn⟩
  · have h1 := evOut_len ⟨o.kind, num, o.dep, o.name, o.ats, o.text, fr, tt⟩
    have h2 : wtE ⟨o.kind, num, o.dep, o.name, o.ats, o.text, fr, tt⟩ = wtE o := rfl
    have h3 : o.name.length ≤ wtE o := by unfold wtE; omega
    rw [h2] at h1 ⊢
    exact ⟨by omega, by omega, by omega⟩
  · have h1 : (evOut ⟨o.kind, num, o.dep, name, o.ats, o.text, fr, tt⟩).length = name.length + 3 := by
      simp [evOut, eventW, hk]
    have h2 : 1 ≤ wtE o := wtE_pos o
    refine ⟨by omega, ?_, by rw [h1]; omega⟩
    simp only [wtE]; omega
theorem own_empty (w : World) (e : TypeId) : (w.alloc (.cells #[] e)).ownsRow w.heap.size e 2 (.slice (some ⟨w.heap.size, 0, none⟩) 0 0) 0 [] := by
  have := World.ownsRow_lit (base := w.heap.size) (e := e) (size := 2) w #[] 0 (by omega) (by unfold maxLen; omega) rfl
  simpa using this
set_option maxRecDepth 1000000 in
set_option maxHeartbeats 4000000 in
theorem one_any {w0 w : World} {wb mb q : Nat} {C : Nat → Nat} {tb pm : Nat} {fp : Int → Option Nat} {ov lv : Value} {first front n : Nat} {ev rov nv : Value} {l : List ER} {s : WSt} {m : RSt} (h : BothAt w0.heap.size w0 wb mb q C w tb pm fp ov lv first front n ev rov nv l s m)
    (o : Ev) (A : Option Addr) (k c : Nat) (hA : AttrsAt w0 A k o.ats) (hkc : k ≤ c) (va : Option Addr) (vn vc : Nat) (vs : List (Int × Int)) (hV : VsAt w0 va vn vs) (hvc : vn ≤ vc) (hvw : ∀ v ∈ vs, Wf v.1) (fx : Bool) (hwo : Wf o.num) (hq : q + (wtE o + vs.length + 2) ≤ 1048576) :
    Calls Tryz.prog 6 #[.pointer (some ⟨wb, 0, none⟩), .pointer (some ⟨mb, 0, none⟩), .agg (opC o A k c va vn vc fx)] w fun r w' => r = .returned (.bool true) ∧ ∃ C' fp' ov' lv' first' front' n' ev' rov' nv' l' s' m', BothAt w0.heap.size w0 wb mb (q + (wtE o + vs.length + 2)) C' w' tb pm fp' ov' lv' first' front' n' ev' rov' nv' l' s' m' := by
  have HFX : Hid (∀ W, Below w.heap.size w W → Calls Tryz.prog 11 #[.pointer (some ⟨mb, 0, none⟩), .agg (opC o A k c va vn vc fx)] W fun r w' => RetFixed l o A k c r ∧ Below W.heap.size W w') := Lib.hid fun W hW => by
    have hel : m.evs.length = l.length := by rw [h.R.evm, List.length_map]
    have g1 := h.sim.opnLen; have g2 := h.opn; have g3 := h.len
    refine fixed_any (h.R.below hW) o A k c va vn vc fx (by omega) h.sim.opnLt (by omega) hwo ?_ h.wf
    have := h.sim.nn
    have := h.sim.next
    have := h.nx
    exact wf_small (by omega) (by omega)
  obtain ⟨i0, hi, hz0, hz1, hz2⟩ := info_parts infoAttr
  have HKB : Hid (k ≤ 1048576 ∧ vn ≤ 1048576) := Lib.hid (by
    have h1 := wtA_length o.ats
    have h2 := hA.1
    have h3 := hV.len
    have h4 : wtA o.ats ≤ wtE o := by unfold wtE; omega
    omega)
  have HH := Lib.hid h
  have HAV := Lib.hid (⟨hA, hkc, hV, hvc, hvw, hwo, hq⟩ : _ ∧ _ ∧ _ ∧ _ ∧ _ ∧ _ ∧ _)
  have HBO : Hid (∀ o1, Below w.heap.size w (w.alloc o1)) := Lib.hid fun o1 => (Below.refl _ _).alloc (Nat.le_refl _) o1
  have HNB : Hid (∀ W o1, Below (w.alloc o1).heap.size (w.alloc o1) W → w.heap.size < W.heap.size ∧ W.heap[w.heap.size]? = some o1) := Lib.hid fun W o1 hb => ⟨by have := hb.size; simp at this; omega, (hb.block _ (by simp)).trans (heap_alloc_new w _)⟩
  clear h hA hkc hV hvc hvw hwo hq
  unfold opC at *
  go_enter Tryz.func6, Tryz.ntmps6
  go_wp2_with fail
  (with_reducible refine (HFX.out _ (HBO.out _)).mono ?_)
  rintro r w1 ⟨⟨num, fr, tt, name, rfl, hwn, hnm⟩, hb1⟩
  have HB1 := Lib.hid ((HBO.out _).trans (hb1.mono (HBO.out _).size))
  have HNM := Lib.hid (⟨hwn, hnm⟩ : _ ∧ _)
  obtain ⟨hlt1, hbo1⟩ := HNB.out w1 _ hb1
  unfold evC at *
  clear hwn hnm hb1
  obtain ⟨E1, hE1⟩ : ∃ E1 : Array Value, E1 = #[.int .i64 o.kind, .int .i64 num, .int .i64 o.dep, .string (strL name), .slice A k c, .string (strL o.text), .int .i64 fr, .int .i64 tt] := ⟨_, rfl⟩
  obtain ⟨OC, hOC⟩ : ∃ OC : Array Value, OC = #[.int .i64 o.kind, .int .i64 o.num, .int .i64 o.dep, .string (strL o.name), .slice A k c, .string (strL o.text), .int .i64 o.fr, .int .i64 o.tt, .slice va vn vc, .bool fx] := ⟨_, rfl⟩
  obtain ⟨W3, hW3⟩ : ∃ W3, W3 = (w1.alloc (.cells E1 36)).alloc (.cells E1 36) := ⟨_, rfl⟩
  have hW3s : W3.heap.size = w1.heap.size + 2 := by rw [hW3]; simp
  rw [← hOC] at hbo1
  have hX3 : Bx w W3 w1.heap.size OC E1 E1 := by
    have k1 : W3.heap[w1.heap.size + 1]? = some (.cells E1 36 (0, 0)) := by
      have := heap_alloc_new (w1.alloc (.cells E1 36)) (.cells E1 36)
      rw [hW3]; simpa using this
    have k2 : W3.heap[w1.heap.size]? = some (.cells E1 36 (0, 0)) := by
      rw [hW3, heap_alloc_old _ _ (by simp)]; exact heap_alloc_new w1 _
    have k3 : W3.heap[w.heap.size]? = some (.cells OC 39 (0, 0)) := by
      rw [hW3, heap_alloc_old _ _ (by simp; omega), heap_alloc_old _ _ (by omega)]; exact hbo1
    have k4 : Below w.heap.size w W3 := by
      rw [hW3]; exact (HB1.out.alloc HB1.out.size _).alloc (by have := HB1.out.size; simp; omega) _
    exact ⟨k4, hlt1, k3, k2, k1⟩
  have HA3 : Hid (∀ o1, AttrsAt (W3.alloc o1) A k o.ats) := Lib.hid fun o1 => HAV.out.1.below (HH.out.bel.trans (((hX3.b.alloc hX3.b.size o1)).mono HH.out.size))
  have H3 := Lib.hid (⟨hW3s, hX3⟩ : _ ∧ _)
  clear hX3 hbo1 hlt1
  have HOC := Lib.hid hOC
  have HE1 := Lib.hid hE1
  clear hOC
  go_upto_region 4 with (at_builtin; go_must ((rw [← hE1, ← hW3]); (refine wpList_app_row (W3.alloc (.cells #[] 63)) (by rfl) _ _ 34 (by rfl) W3.heap.size 63 i0 (.agg #[.string ⟨#[]⟩, .string ⟨#[]⟩]) 2 32 Tryz.underlying34 hi hz0 hz1 hz2 (by rfl) (by decide) (.slice (some ⟨W3.heap.size, 0, none⟩) 0 0) 0 [] (by rw [H3.out.1]; rfl) (own_empty _ _) A k c (atC o.ats) (by rfl) (by rw [atC_length, HAV.out.1.1]) ((HA3.out _).cells) (HAV.out.1.none) (atC_one o.ats) (by have := HKB.out.1; omega) (by decide) (by simp) (fun v' w4 hown4 hap4 => ?_)); (obtain ⟨A8, c8, hv8, hkc8, hA8, hfr8⟩ := own_attrs (by simpa using hown4)); (subst hv8); (have hb4 : Below W3.heap.size W3 w4 := ((Below.refl _ _).alloc (Nat.le_refl _) _).trans (hap4.below (by simp) (fun j hj => Nat.le_of_eq (Option.some.inj hj)))); (have HX4 : Hid (Bx w w4 w1.heap.size OC E1 E1) := Lib.hid (H3.out.2.keep (by rw [← H3.out.1]; exact hb4))); (have hq4 := HX4.out.bm); (obtain ⟨m0, m1, m2, m3, m4, m5, m6, m7⟩ := box_cells (by rw [hE1] at hq4; exact hq4)); (have mfz := fun i => frozen_heap (i := i) hq4)))
  obtain ⟨W5, hW5⟩ : ∃ W5, W5 = w4.setCell ⟨w1.heap.size + 1, 4, none⟩ (.slice A8 k c8) := ⟨_, rfl⟩
  rw [← hW5]
  obtain ⟨E2, hE2⟩ : ∃ E2 : Array Value, E2 = #[.int .i64 o.kind, .int .i64 num, .int .i64 o.dep, .string (strL name), .slice A8 k c8, .string (strL o.text), .int .i64 fr, .int .i64 tt] := ⟨_, rfl⟩
  have HX5 : Hid (Bx w W5 w1.heap.size OC E1 E2) := Lib.hid (by rw [hW5]; exact HX4.out.setM 4 _ (by rw [hE1, hE2]; rfl))
  have HR5 : Hid (W5.ownsRow W3.heap.size 63 2 (.slice A8 k c8) k (atC o.ats)) := Lib.hid (by
    have := own_block (w' := W5) (by simpa using hown4) (fun j hj => by
      rw [hW5]
      exact Below.heap_setCell _ _ _ _ (fun e => by
        have e' : j = w1.heap.size + 1 := e
        have := (hown4.lt j hj).1
        rw [H3.out.1] at this; omega))
    exact this)
  have HO5 : Hid (∀ o1, (W5.alloc o1).cell? ⟨w.heap.size, 8, none⟩ = some (.slice va vn vc)) := Lib.hid fun o1 => by
    have h1 : (W5.alloc o1).heap[w.heap.size]? = some (.cells OC 39 (0, 0)) := (heap_alloc_old _ _ (heap_lt HX5.out.bo)).trans HX5.out.bo
    rw [cell_heap h1, HOC.out]; rfl
  have HV5 : Hid (∀ o1, VsAt (W5.alloc o1) va vn vs) := Lib.hid fun o1 => HAV.out.2.2.1.below (HH.out.bel.trans (((HX5.out.b.alloc HX5.out.b.size o1)).mono HH.out.size))
  have HE2 := Lib.hid hE2
  clear m0 m1 m2 m3 m4 m5 m6 m7 mfz hq4 hap4 hown4 hA8 hfr8 hb4 hW5 hE1 hE2 hW3 hW3s
  obtain ⟨j0, hj, hjz0, hjz1, hjz2⟩ := info_parts infoVerd
  have n5 := HO5.out
  go_upto_region 5 with (at_builtin; go_must ((refine wpList_app_row (W5.alloc (.cells #[] 49)) (by rfl) _ _ 37 (by rfl) W5.heap.size 49 j0 (.agg #[.int .i64 0, .int .i64 0]) 2 16 Tryz.underlying37 hj hjz0 hjz1 hjz2 (by rfl) (by decide) (.slice (some ⟨W5.heap.size, 0, none⟩) 0 0) 0 [] (by rfl) (own_empty _ _) va vn vc (vsV vs) (by rfl) (by rw [vsV_length, HAV.out.2.2.1.len]) ((HV5.out _).cells) (HAV.out.2.2.1.none) (vsV_one vs) (by have := HKB.out.2; omega) (by decide) (by simp) (fun v' w6 hown6 hap6 => ?_))))
  have hb6 : Below W5.heap.size W5 w6 := ((Below.refl _ _).alloc (Nat.le_refl _) _).trans (hap6.below (by simp) (fun j hj => Nat.le_of_eq (Option.some.inj hj)))
  have H6 : Hid (w6.ownsRow W5.heap.size 49 2 v' vn (vsV vs) ∧ Below W5.heap.size W5 w6) := Lib.hid ⟨by simpa using hown6, hb6⟩
  clear n5 hown6 hap6 hb6
  obtain ⟨A9, c9, hv9, _⟩ := own_slice H6.out.1
  subst hv9
  go_upto_region 6 with (at_builtin; go_must ((refine wpList_app w6 (by rfl) _ _ 37 (by rfl) W5.heap.size 49 j0 (.agg #[.int .i64 0, .int .i64 0]) 2 16 Tryz.underlying37 hj hjz0 hjz1 hjz2 (by rfl) (by decide) (.slice A9 vn c9) vn (vsV vs) (by rfl) H6.out.1 _ rfl 1 [.int .i64 71, .int .i64 0] (by rfl) (by rfl) (by intro u hu; simp only [List.mem_cons, List.not_mem_nil, or_false] at hu; rcases hu with rfl | rfl <;> rfl) (by have := HKB.out.2; omega) (by decide) H6.out.2.size (fun v' w7 hown7 hap7 => ?_))))
  have hb7 : Below W5.heap.size W5 w7 := H6.out.2.trans (((Below.refl _ _).alloc H6.out.2.size _).trans (hap7.below (by have := H6.out.2.size; simp; omega) (fun j hj => (H6.out.1.lt j hj).1)))
  obtain ⟨gv, cv, rfl, hcv, hgv, hgl, _, _⟩ := own_some hown7
  have HX7 : Hid (Bx w w7 w1.heap.size OC E1 E2) := Lib.hid (HX5.out.keep (hb7.mono HX5.out.size))
  have HR7 : Hid (w7.ownsRow W3.heap.size 63 2 (.slice A8 k c8) k (atC o.ats) ∧ ∀ j, (Value.slice A8 k c8).ownBlock = some j → W3.heap.size ≤ j ∧ j < W5.heap.size) := Lib.hid ⟨own_block HR5.out (fun j hj => hb7.block j (HR5.out.lt j hj).2), HR5.out.lt⟩
  have HV7 : Hid (w7.ownsRow W5.heap.size 49 2 (.slice (some ⟨gv, 0, none⟩) (vn + 1) cv) (vn + 1) (vsV vs ++ [.int .i64 71, .int .i64 0])) := Lib.hid hown7
  obtain ⟨e, he⟩ : ∃ e : Ev, e = ⟨o.kind, num, o.dep, name, o.ats, o.text, fr, tt⟩ := ⟨_, rfl⟩
  have HFB : Hid (name.length ≤ q + wtE o ∧ wtE e ≤ q + wtE o ∧ (evOut e).length ≤ 600000 * (wtE o + 2) ∧ e.num = num ∧ e.name = name ∧ e.ats = o.ats) := Lib.hid (by
    have h1 := fixed_bounds o num fr tt name q (by have := HAV.out.2.2.2.2.2.2; omega) (by
      rcases HNM.out.2 with h | ⟨h, x, hx, hx2⟩
      · exact .inl h
      · exact .inr ⟨h, by rw [hx2]; exact HH.out.nam x hx⟩)
    rw [he]; exact ⟨h1.1, h1.2.1, h1.2.2, rfl, rfl, rfl⟩)
  obtain ⟨T, hT⟩ : ∃ T, T = wtake s (wOf e) vs := ⟨_, rfl⟩
  obtain ⟨R, hR⟩ : ∃ R, R = rtake m (wOf e) vs := ⟨_, rfl⟩
  have HBW : Hid (Below w.heap.size w w7) := Lib.hid HX7.out.b
  have HTK : Hid (∀ W, Eqv w7 W → Calls Tryz.prog 7 #[.pointer (some ⟨wb, 0, none⟩), .agg #[.int .i64 o.kind, .int .i64 num, .int .i64 o.dep, .string (strL name), .slice A8 k c8, .string (strL o.text), .int .i64 fr, .int .i64 tt], .slice (some ⟨gv, 0, none⟩) vn cv] W fun r w' =>
      ∃ front', WFront R.2 front' ∧ RetTake C w7 wb tb pm n vn T.1.1 T.1.2 T.2 front' r w') := Lib.hid (by
    intro W hqv
    have hbq := hqv.below
    obtain ⟨d, rfl⟩ := hqv
    have hh := (HH.out.below HBW.out)
    have hq := HAV.out.2.2.2.2.2.2
    have hvl := HAV.out.2.2.1.len
    have hA8 : AttrsAt w7 A8 k o.ats := by
      obtain ⟨A', c', e', _, h3, _⟩ := own_attrs HR7.out.1
      cases e'; exact h3
    have hk8 : k ≤ c8 := by
      obtain ⟨A', c', e', h3, _⟩ := own_attrs HR7.out.1
      cases e'; exact h3
    have h1 := hh.len; have h2 := hh.nn; have h3 := hh.ord; have h4 := hh.opn; have h5 := hh.nx; have h6 := hh.all
    have h7 := HFB.out
    have hsn : 0 ≤ s.next := by have := hh.sim.nn; have := hh.sim.next; omega
    obtain ⟨f, hf, hc⟩ := take_any (hh.W.below hbq) hh.sim hh.fr e A8 k c8 (by rw [HFB.out.2.2.2.2.2]; exact hA8.below hbq) hk8 (by omega) (by rw [HFB.out.2.2.2.1]; exact HNM.out.1) (by omega)
      (some ⟨gv, 0, none⟩) vn cv vs (by rw [hvl]; exact (own_vs HV7.out).below hbq) (fun ad ha => by cases ha; exact HH.out.W.top _ (Nat.le_trans HX5.out.b.size (HV7.out.lt gv rfl).1)) HAV.out.2.2.2.2.1 (by omega) (by omega) (by omega) ⟨hsn, by omega⟩
    rw [← hT] at hc
    rw [← hR] at hf
    simp only [evC, he] at hc
    refine hc.mono ?_
    rintro r w' ⟨C8, fp8, ov8, lv8, first8, ia8, ic8, n8, hr8, hW8, hI8, hM8, hP8, hn8⟩
    exact ⟨f, hf, C8, fp8, ov8, lv8, first8, ia8, ic8, n8, hr8, hW8, hI8, ⟨hM8.os, hM8.tape, hM8.output, hM8.size, hM8.block⟩, ⟨hP8.old, hP8.top⟩, hn8⟩)
  obtain ⟨m0, m1, m2, m3, m4, m5, m6, m7⟩ := box_cells (by have := HX7.out.bm; rw [HE2.out] at this; exact this)
  have n8 : w7.cell? ⟨w.heap.size, 8, none⟩ = some (.slice va vn vc) := by rw [cell_heap HX7.out.bo, HOC.out]; rfl
  have i1 : (0 : Int) ≤ (vn : Int) := by omega
  have i2 : (vn : Int) ≤ (cv : Int) := by omega
  have HCV := Lib.hid hcv
  have HTR := Lib.hid (⟨hT, hR, he⟩ : _ ∧ _ ∧ _)
  clear hown7 hap7 hb7 hgv hgl hT hR he
  go_cut [10, 11] from 37 to 46 (fun s10 s11 wx => ∃ ia ic, s10 = .slice ia T.1.1.length ic ∧ s11 = .int .i64 T.1.2 ∧ Hid (TkPost C w7 wb tb pm n vn T.1.1 T.2 R.2 (.slice ia T.1.1.length ic) wx))
  case first =>
    go_region_with (first | (go_at_call 7; (with_reducible refine (HTK.out _ ?_).mono ?_); exact ⟨_, rfl⟩; rintro e8 w8 ⟨f8, hf8, C8, fp8, ov8, lv8, first8, ia8, ic8, n8', rfl, hW8, hI8, hM8, hP8, hn8⟩))
    all_goals
      have HX : Hid (TkPost C w7 wb tb pm n vn T.1.1 T.2 R.2 (.slice ia8 T.1.1.length ic8) w8) := Lib.hid ⟨f8, C8, fp8, ov8, lv8, first8, n8', hf8, hW8, hI8, hM8, hP8, hn8⟩
      clear hf8 hW8 hI8 hM8 hP8 hn8
      go_wp2_with fail
      go_meet
      exact ⟨_, _, rfl, rfl, Lib.hid HX.out⟩
  case rest =>
    obtain ⟨ia8, ic8, rfl, rfl, HC⟩ := hcut
    obtain ⟨f8, C8, fp8, ov8, lv8, first8, n8', hf8, hW8, hI8, hM8, hP8, hn8⟩ := HC.out
    have hz : ∀ j, w.heap.size ≤ j → C j = 0 := HH.out.W.top
    have hz8 : ∀ j, w.heap.size ≤ j → j < w7.heap.size → C8 j = 0 := fun j h1 h2 => (hP8.old j h2).trans (hz j h1)
    have hs7 := HX7.out.size
    have hlo7 := HX7.out.lo
    have HQ8 : Hid (Bq wc w.heap.size w1.heap.size OC E1 E2) := Lib.hid (HX7.out.q.mv hM8 (Nat.le_refl _) (hz _ (Nat.le_refl _)) (hz _ (by omega)) (hz _ (by omega)))
    have hb0 := HH.out.below HBW.out
    have HB8 : Hid (Below w0.heap.size w0 wc) := Lib.hid (hM8.bel (Nat.le_refl _) hb0.c0 hb0.bel hb0.size)
    have HR8 : Hid (wc.ownsRow W3.heap.size 63 2 (.slice A8 k c8) k (atC o.ats)) := Lib.hid (own_block HR7.out.1 (fun j hj => hM8.block j (HR7.out.1.lt j hj).2 (by rw [hz j (by have := (HR7.out.2 j hj).1; have := H3.out.1; omega)]; omega)))
    have HV8 : Hid (wc.ownsRow W5.heap.size 49 2 (.slice (some ⟨gv, 0, none⟩) (vn + 1) cv) (vn + 1) (vsV vs ++ [.int .i64 71, .int .i64 0])) := Lib.hid (own_block HV7.out (fun j hj => hM8.block j (HV7.out.lt j hj).2 (by rw [hz j (by have := (HV7.out.lt j hj).1; have := HX5.out.b.size; omega)]; omega)))
    have HRT : Hid (Calls Tryz.prog 12 #[.pointer (some ⟨mb, 0, none⟩), .agg #[.int .i64 o.kind, .int .i64 num, .int .i64 o.dep, .string (strL name), .slice A k c, .string (strL o.text), .int .i64 fr, .int .i64 tt], .slice va vn vc] wc fun r w' =>
        ∃ l', (l' = l ∧ R.2 = m ∨ l' = l ++ [⟨e, A, k, c⟩] ∧ EvOk e) ∧ RetRTake C8 wc mb l' R.1.1 R.1.2 R.2 r w') := Lib.hid (by
      have hq := HAV.out.2.2.2.2.2.2
      have hvl := HAV.out.2.2.1.len
      have h1 := hb0.len; have h2 := hb0.nn; have h3 := hb0.ord; have h4 := hb0.opn; have h5 := hb0.nx
      have h7 := HFB.out
      have h8 := hb0.sim.nodesLen
      have h9 := hb0.sim.opnLen
      have hel : m.evs.length = l.length := by rw [hb0.R.evm, List.length_map]
      have hsz0 : w0.heap.size ≤ w7.heap.size := hb0.size
      have hc00 : ∀ j, j < w0.heap.size → C8 j = 0 := fun j hj => (hP8.old j (Nat.lt_of_lt_of_le hj hsz0)).trans (hb0.c0 j hj)
      have hAc : e.ats ≠ [] → ∀ ad, A = some ad → ad.block < w0.heap.size := fun hne ad ha => by
        have hlen : 0 < o.ats.length := by rw [← h7.2.2.2.2.2]; exact List.length_pos_iff.2 hne
        obtain ⟨b, off, e1, hlt, _⟩ := HAV.out.1.2 0 hlen
        rw [ha] at e1; injection e1 with e1; rw [e1]; exact hlt
      have hVc : vs ≠ [] → ∀ ad, va = some ad → ad.block < w0.heap.size := fun hne ad ha => by
        obtain ⟨b, off, e1, hlt, _⟩ := HAV.out.2.2.1.cell 0 (List.length_pos_iff.2 hne)
        rw [ha] at e1; injection e1 with e1; rw [e1]; exact hlt
      have hnx : 0 ≤ m.next ∧ m.next + 1 ≤ 1048576 := by have := hb0.sim.nn; have := hb0.sim.next; omega
      obtain ⟨l', hl, hc⟩ := rtake_any (hb0.R.mv hM8 hP8) hb0.sim e A k c (by rw [h7.2.2.2.2.2]; exact HAV.out.1.below HB8.out) HAV.out.2.1 (fun hne ad ha => hc00 _ (hAc hne ad ha)) (by omega)
        va vn vc vs (HAV.out.2.2.1.below HB8.out) (fun hne ad ha => hc00 _ (hVc hne ad ha)) (by omega) (by omega) hb0.sim.opnLt (by omega) hnx hb0.ok
      rw [← HTR.out.2.1] at hc hl
      simp only [evC, HTR.out.2.2] at hc
      exact hc.mono fun r w' h => ⟨l', hl, h⟩)
    obtain ⟨p0, p1, p2, p3, p4, p5, p6, p7⟩ := box_cells (by have := HQ8.out.be; rw [HE1.out] at this; exact this)
    have n9 : wc.cell? ⟨w.heap.size, 8, none⟩ = some (.slice va vn vc) := by rw [cell_heap HQ8.out.bo, HOC.out]; rfl
    have HC8 := Lib.hid (⟨hf8, hW8, hI8, hM8, hP8, hn8⟩ : _ ∧ _ ∧ _ ∧ _ ∧ _ ∧ _)
    have HZ8 := Lib.hid hz8
    have HS7 := Lib.hid (⟨hs7, hlo7⟩ : _ ∧ _)
    clear hf8 hW8 hI8 hM8 hP8 hn8 hz hz8 hs7 hlo7 hb0
    go_wp2_with fail
    (with_reducible refine HRT.out.mono ?_)
    rintro r w9 ⟨l', hl', C9, ev9, rov9, nv9, ja, jc, rfl, hR9, hJ9, hM9, hP9⟩
    obtain ⟨hf8, hW8, hI8, hM8, hP8, hn8⟩ := HC8.out
    have hs7 := HS7.out.1
    have hlo7 := HS7.out.2
    have hs8 : w7.heap.size ≤ wc.heap.size := hM8.size
    have hz9 : ∀ j, w.heap.size ≤ j → j < w7.heap.size → C9 j = 0 := fun j h1 h2 => (hP9.old j (by omega)).trans (HZ8.out j h1 h2)
    have HBT : Hid (BothAt w0.heap.size w0 wb mb (q + (wtE o + vs.length + 2)) C9 w9 tb pm fp8 ov8 lv8 first8 f8 n8' ev9 rov9 nv9 l' T.2 R.2) := Lib.hid (by
      have h7 := HFB.out
      have hb0 := HH.out.below HBW.out
      rw [HTR.out.1] at hW8 ⊢
      rw [HTR.out.2.1] at hf8 hR9 hl' ⊢
      refine hb0.takes e A k c vs (wtE o + vs.length + 2) (by omega) hW8 hM8 hP8 hR9 hM9 hP9 hf8 hl' (by rw [← HAV.out.2.2.1.len]; exact hn8) (fun hne ad ha => ?_) (by rw [h7.2.2.2.1]; exact HNM.out.1) (by rw [h7.2.2.2.2.1]; omega) (by omega)
      have hlen : 0 < o.ats.length := by rw [← h7.2.2.2.2.2]; exact List.length_pos_iff.2 hne
      obtain ⟨b, off, e1, hlt, _⟩ := HAV.out.1.2 0 hlen
      rw [ha] at e1; injection e1 with e1; rw [e1]; exact hlt)
    have HQ9 : Hid (Bq w9 w.heap.size w1.heap.size OC E1 E2) := Lib.hid (HQ8.out.mv hM9 (by decide) (HZ8.out _ (Nat.le_refl _) (by omega)) (HZ8.out _ (by omega) (by omega)) (HZ8.out _ (by omega) (by omega)))
    have hw3 := H3.out.1
    have hw5 := HX5.out.b.size
    have HR9' : Hid (w9.ownsRow W3.heap.size 63 2 (.slice A8 k c8) k (atC o.ats) ∧ ∀ j, (Value.slice A8 k c8).ownBlock = some j → C9 j = 0 ∧ W3.heap.size ≤ j ∧ j < W5.heap.size) := Lib.hid ⟨own_block HR8.out (fun j hj => hM9.block j (HR8.out.lt j hj).2 (by
      have h1 := HR7.out.2 j hj
      have h2 := (HV7.out.lt gv rfl)
      rw [HZ8.out j (by omega) (by omega)]; omega)), fun j hj => by
        have h1 := HR7.out.2 j hj
        have h2 := (HV7.out.lt gv rfl)
        exact ⟨hz9 j (by omega) (by omega), h1⟩⟩
    have HV9' : Hid (w9.ownsRow W5.heap.size 49 2 (.slice (some ⟨gv, 0, none⟩) (vn + 1) cv) (vn + 1) (vsV vs ++ [.int .i64 71, .int .i64 0]) ∧ C9 gv = 0 ∧ W5.heap.size ≤ gv ∧ gv < w7.heap.size) := Lib.hid (by
      have h2 := (HV7.out.lt gv rfl)
      exact ⟨own_block HV8.out (fun j hj => by cases hj; exact hM9.block gv (HV8.out.lt gv rfl).2 (by rw [HZ8.out gv (by omega) (by omega)]; omega)), hz9 gv (by omega) (by omega), h2⟩)
    have HG9 : Hid (w9.ownsRow w7.heap.size 51 2 (.slice ia8 T.1.1.length ic8) T.1.1.length (itemsV T.1.1) ∧ ∀ j, (Value.slice ia8 T.1.1.length ic8).ownBlock = some j → C9 j = 0 ∧ w7.heap.size ≤ j ∧ j < w9.heap.size) := Lib.hid (by
      refine ⟨own_block hI8.own (fun j hj => hM9.block j (hI8.own.lt j hj).2 (by rw [hI8.col j hj]; omega)), fun j hj => ⟨(hP9.old j (hI8.own.lt j hj).2).trans (hI8.col j hj), (hI8.own.lt j hj).1, Nat.lt_of_lt_of_le (hI8.own.lt j hj).2 hM9.size⟩⟩)
    have hTR : T.1 = R.1 := by rw [HTR.out.1, HTR.out.2.1]; exact (take_same HH.out.sim (wOf e) vs).1
    have HIT : Hid (Calls Tryz.prog 13 #[.slice ia8 T.1.1.length ic8, .slice ja R.1.1.length jc] w9 fun r w' => r = .returned (.bool true) ∧ Below w9.heap.size w9 w') := Lib.hid (by
      have hb0 := HH.out.below HBW.out
      have hq := HAV.out.2.2.2.2.2.2
      have h3 := hb0.ord
      have hl1 := (wtake_len s (wOf e) vs).1
      rw [← HTR.out.1] at hl1
      refine items_any ia8 ja _ _ ic8 jc T.1.1 w9 (own_its HG9.out.1 rfl) ?_ (by omega)
      have hq9 := hJ9.row
      rw [← hTR] at hq9 ⊢
      exact ItAt.ofQ hq9)
    have herr : R.1.2 = T.1.2 := by rw [hTR]
    have HTRE := Lib.hid hTR
    have HP9 := Lib.hid hP9
    clear hTR hl' hR9 hJ9 hM9 hP9 hf8 hW8 hI8 hM8 hP8 hn8 hs7 hlo7 hs8 hz9 hw3 hw5 p0 p1 p2 p3 p4 p5 p6 p7 n9
    rw [herr]
    clear herr
    go_wp2_with fail
    (with_reducible refine HIT.out.mono ?_)
    rintro r w10 ⟨rfl, hb10⟩
    have n10 : w10.cell? ⟨w.heap.size, 8, none⟩ = some (.slice va vn vc) := by rw [cell_heap (HQ9.out.below hb10).bo, HOC.out]; rfl
    have v10 : w10.cell? ⟨gv, vn * 2, none⟩ = some (.int .i64 71) := by
      have h1 := own_block HV9'.out.1 (fun j hj => hb10.block j (HV9'.out.1.lt j hj).2)
      rw [h1.cellAt _ (by omega), List.getElem?_append_right (by rw [vsV_length, HAV.out.2.2.1.len]; exact Nat.le_refl _), vsV_length, ← HAV.out.2.2.1.len, Nat.sub_self]; rfl
    have i1' : (0 : Int) ≤ (vn : Int) := by omega
    have i2' : (vn : Int) < ((vn + 1 : Nat) : Int) := by omega
    go_upto_region 10 with fail
    obtain ⟨C10, hC10⟩ : ∃ C10, C10 = recol (recol (recol C9 (.slice A8 k c8) 12) (.slice (some ⟨gv, 0, none⟩) (vn + 1) cv) 13) (.slice ia8 T.1.1.length ic8) 14 := ⟨_, rfl⟩
    have hw3 := H3.out.1
    have hw5 := HX5.out.b.size
    have hs7 := HS7.out.1
    have hlo7 := HS7.out.2
    have HQ10 : Hid (Bq w10 w.heap.size w1.heap.size OC E1 E2) := Lib.hid (HQ9.out.below hb10)
    have HA10 : Hid (w10.ownsRow W3.heap.size 63 2 (.slice A8 k c8) k (atC o.ats)) := Lib.hid (own_block HR9'.out.1 (fun j hj => hb10.block j (HR9'.out.1.lt j hj).2))
    have HV10 : Hid (w10.ownsRow W5.heap.size 49 2 (.slice (some ⟨gv, 0, none⟩) (vn + 1) cv) (vn + 1) (vsV vs ++ [.int .i64 71, .int .i64 0])) := Lib.hid (own_block HV9'.out.1 (fun j hj => hb10.block j (HV9'.out.1.lt j hj).2))
    have HG10 : Hid (w10.ownsRow w7.heap.size 51 2 (.slice ia8 T.1.1.length ic8) T.1.1.length (itemsV T.1.1)) := Lib.hid (own_block HG9.out.1 (fun j hj => hb10.block j (HG9.out.1.lt j hj).2))
    have HCC : Hid ((∀ j, (Value.slice A8 k c8).ownBlock = some j → C10 j = 12) ∧ C10 gv = 13 ∧ (∀ j, (Value.slice ia8 T.1.1.length ic8).ownBlock = some j → C10 j = 14) ∧ C10 w.heap.size = 0 ∧ C10 w1.heap.size = 0 ∧ C10 (w1.heap.size + 1) = 0 ∧ ∀ j, C9 j = 0 → j < W3.heap.size ∨ w9.heap.size ≤ j → C10 j = 0) := Lib.hid (by
      have e1 : ∀ j, (Value.slice (some ⟨gv, 0, none⟩) (vn + 1) cv).ownBlock = some j ↔ gv = j := fun j => ⟨fun h => Option.some.inj h, fun h => congrArg some h⟩
      have g1 := HV9'.out.2
      have g5 := HX5.out.size
      have hnone : ∀ j, C9 j = 0 → j < W3.heap.size ∨ w9.heap.size ≤ j → C10 j = 0 := fun j h0 hj => by
        rw [hC10, recol_other (fun e => by have := (HG9.out.2 j e).2; have := HBT.out.size; omega), recol_other (fun e => by rw [e1] at e; have := (HV9'.out.1.lt gv rfl).2; omega), recol_other (fun e => by have := (HR9'.out.2 j e).2; have := (HR9'.out.1.lt j e).2; omega)]
        exact h0
      have hq9 := HQ9.out
      have hz9 : ∀ j, w.heap.size ≤ j → j < w7.heap.size → C9 j = 0 := fun j h1 h2 => by
        have := HZ8.out j h1 h2
        exact (HP9.out.old j (by have := HC8.out.2.2.2.1.size; omega)).trans this
      refine ⟨fun j hj => ?_, ?_, fun j hj => ?_, hnone _ (hz9 _ (Nat.le_refl _) (by omega)) (.inl (by omega)), hnone _ (hz9 _ (by omega) (by omega)) (.inl (by omega)), hnone _ (hz9 _ (by omega) (by omega)) (.inl (by omega)), hnone⟩
      · have h1 := HR9'.out.2 j hj
        rw [hC10, recol_other (fun e => by have := (HG9.out.2 j e).2; omega), recol_other (fun e => by rw [e1] at e; omega), recol_self hj]
      · rw [hC10, recol_other (fun e => by have := (HG9.out.2 gv e).2; omega), recol_self rfl]
      · rw [hC10, recol_self hj])
    have HBD : Hid (BothAt w0.heap.size w0 wb mb (q + (wtE o + vs.length + 2)) C10 w10 tb pm fp8 ov8 lv8 first8 f8 n8' ev9 rov9 nv9 l' T.2 R.2) := Lib.hid (by
      have e1 : ∀ j, (Value.slice (some ⟨gv, 0, none⟩) (vn + 1) cv).ownBlock = some j → gv = j := fun j h => Option.some.inj h
      have g1 := HV9'.out.2
      have hw0 := HH.out.size
      rw [hC10]
      refine (((HBT.out.below hb10).recol _ 12 (fun j hj => ?_)).recol _ 13 (fun j hj => ?_)).recol _ 14 (fun j hj => ?_)
      · have h1 := HR9'.out.2 j hj
        exact ⟨h1.1, by omega, (HA10.out.lt j hj).2⟩
      · have h2 := e1 j hj
        subst h2
        refine ⟨?_, by omega, (HV10.out.lt gv rfl).2⟩
        rw [recol_other (fun e => by have := (HR9'.out.2 gv e).2; omega)]
        exact g1.1
      · have h1 := HG9.out.2 j hj
        refine ⟨?_, by omega, (HG10.out.lt j hj).2⟩
        rw [recol_other (fun e => by have := e1 j e; omega), recol_other (fun e => by have := (HR9'.out.2 j e).2; omega)]
        exact h1.1)
    clear hC10 hw3 hw5 hs7 hlo7 n10 v10 i1' i2' hb10
    go_wp2_with fail
    go_loopw [14] (fun iv wr => ∃ i : Nat, iv = .int .i64 i ∧ i ≤ k ∧ Hid (SpAt C10 12 w10 wr A8 (k * 2) (i * 2))) (fun iv _ => k - (intOf iv).toNat)
    case atStart => exact ⟨0, rfl, Nat.zero_le _, Lib.hid (by rw [Nat.zero_mul]; exact SpAt.start HA10.out HCC.out.1)⟩
    case round =>
      obtain ⟨i, rfl, hi', HSP⟩ := hrel
      have hbq := HQ10.out.mv HSP.out.mv (by decide) HCC.out.2.2.2.1 HCC.out.2.2.2.2.1 HCC.out.2.2.2.2.2.1
      have p4 : wr.cell? ⟨w1.heap.size, 4, none⟩ = some (.slice A k c) := by rw [cell_heap hbq.be, HE1.out]; rfl
      have q4 : wr.cell? ⟨w1.heap.size + 1, 4, none⟩ = some (.slice A8 k c8) := by rw [cell_heap hbq.bm, HE2.out]; rfl
      have hbel := HSP.out.mv.bel (by decide) HBD.out.c0 HBD.out.bel HBD.out.size
      clear hbq
      by_cases hin : i < k
      · have hil : i < o.ats.length := by rw [← HAV.out.1.1]; exact hin
        obtain ⟨b, off, e0, hlt, z0, z1⟩ := (HAV.out.1.below hbel).2 i hil
        obtain ⟨g8, e8, x0, x1⟩ : ∃ g8, A8 = some ⟨g8, 0, none⟩ ∧ wr.cell? ⟨g8, i * 2, none⟩ = some (.string (strL o.ats[i].1)) ∧ wr.cell? ⟨g8, i * 2 + 1, none⟩ = some (.string (strL o.ats[i].2)) := by
          obtain ⟨a', c', e1, h1, h2, h3⟩ := own_slice HA10.out
          injection e1 with e1 _ _
          subst e1
          cases A8 with
          | none => have := h2 rfl; omega
          | some ad =>
            obtain ⟨g, rfl, _, _, _, hc⟩ := h3 _ rfl
            obtain ⟨k1, k2⟩ := atC_get o.ats i hil
            exact ⟨g, rfl, (HSP.out.keep g rfl _ (Nat.le_refl _)).trans (hc _ _ k1), (HSP.out.keep g rfl _ (by omega)).trans (hc _ _ k2)⟩
        have fz := HSP.out.free g8 e8
        have HE8 := Lib.hid e8
        rw [e0] at p4
        rw [e8] at q4
        generalize strL (o.ats[i]'hil).1 = y1 at *
        generalize strL (o.ats[i]'hil).2 = y2 at *
        have i1 : (0 : Int) ≤ (i : Int) := by omega
        have i2 : (i : Int) < (k : Int) := by omega
        have ew : IntKind.i64.wrap ((i : Int) + 1) = (i : Int) + 1 := IntWalk.i64_in _ (by have := HKB.out.1; omega)
        clear hbel e0 e8
        go_wp2_with fail
        go_region
        go_wp2_with fail
        go_roundw
        case rel => exact ⟨i + 1, by go_num, by omega, Lib.hid ((((HSP.out.drew _).next ((i + 1) * 2) (by omega)).set HE8.out _ _ (by omega)).set HE8.out _ _ (by omega))⟩
        case measure => simp [intOf]; omega
      · have hik : i = k := by omega
        subst hik
        clear hbel
        obtain ⟨w11, rfl⟩ : ∃ w11, w11 = wr := ⟨_, rfl⟩
        have hz11 : ∀ j, j < w10.heap.size → C10 j ≠ 12 → w11.heap[j]? = w10.heap[j]? := fun j h1 h2 => HSP.out.mv.block j h1 (by omega)
        have HQ11 : Hid (Bq w11 w.heap.size w1.heap.size OC E1 E2) := Lib.hid (HQ10.out.mv HSP.out.mv (by decide) HCC.out.2.2.2.1 HCC.out.2.2.2.2.1 HCC.out.2.2.2.2.2.1)
        have HV11 : Hid (w11.ownsRow W5.heap.size 49 2 (.slice (some ⟨gv, 0, none⟩) (vn + 1) cv) (vn + 1) (vsV vs ++ [.int .i64 71, .int .i64 0])) := Lib.hid (own_block HV10.out (fun j hj => hz11 j (HV10.out.lt j hj).2 (by cases hj; rw [HCC.out.2.1]; decide)))
        have HG11 : Hid (w11.ownsRow w7.heap.size 51 2 (.slice ia8 T.1.1.length ic8) T.1.1.length (itemsV T.1.1)) := Lib.hid (own_block HG10.out (fun j hj => hz11 j (HG10.out.lt j hj).2 (by rw [HCC.out.2.2.1 j hj]; decide)))
        have HBD11 := Lib.hid (HBD.out.turn HSP.out.mv (by decide))
        clear hz11
        go_wp2_with fail
        clear p4 q4
        go_loopw [15] (fun iv wr => ∃ j : Nat, iv = .int .i64 j ∧ j ≤ vn + 1 ∧ Hid (SpAt C10 13 w11 wr (some ⟨gv, 0, none⟩) ((vn + 1) * 2) (j * 2))) (fun iv _ => vn + 1 - (intOf iv).toNat)
        case atStart => exact ⟨0, rfl, Nat.zero_le _, Lib.hid (by rw [Nat.zero_mul]; exact SpAt.start HV11.out (fun j hj => by cases hj; exact HCC.out.2.1))⟩
        case round =>
          obtain ⟨j, rfl, hj', HSQ⟩ := hrel
          have hbq := HQ11.out.mv HSQ.out.mv (by decide) HCC.out.2.2.2.1 HCC.out.2.2.2.2.1 HCC.out.2.2.2.2.2.1
          have n12 : wr.cell? ⟨w.heap.size, 8, none⟩ = some (.slice va vn vc) := by rw [cell_heap hbq.bo, HOC.out]; rfl
          have hbel := HSQ.out.mv.bel (by decide) HBD11.out.c0 HBD11.out.bel HBD11.out.size
          clear hbq
          by_cases hjn : j < vn + 1
          · have i1 : (0 : Int) ≤ (j : Int) := by omega
            have i2 : (j : Int) < ((vn + 1 : Nat) : Int) := by omega
            have ew : IntKind.i64.wrap ((j : Int) + 1) = (j : Int) + 1 := IntWalk.i64_in _ (by have := HKB.out.2; omega)
            have fz := HSQ.out.free gv rfl
            by_cases hjv : j < vn
            · have hjl : j < vs.length := by rw [← HAV.out.2.2.1.len]; exact hjv
              obtain ⟨b, off, e0, hlt, z0, z1⟩ := (HAV.out.2.2.1.below hbel).cell j hjl
              obtain ⟨k1, k2⟩ := vsV_get vs j hjl
              have hvl := vsV_length vs
              have x0 : wr.cell? ⟨gv, j * 2, none⟩ = some (.int .i64 vs[j].1) := (HSQ.out.keep gv rfl _ (Nat.le_refl _)).trans ((HV11.out.cellAt _ (by omega)).trans (by rw [List.getElem?_append_left (by omega)]; exact k1))
              have x1 : wr.cell? ⟨gv, j * 2 + 1, none⟩ = some (.int .i64 vs[j].2) := (HSQ.out.keep gv rfl _ (by omega)).trans ((HV11.out.cellAt _ (by omega)).trans (by rw [List.getElem?_append_left (by omega)]; exact k2))
              rw [e0] at n12
              generalize (vs[j]'hjl).1 = y1 at *
              generalize (vs[j]'hjl).2 = y2 at *
              have i3 : (j : Int) < (vn : Int) := by omega
              have i4 : decide ((j : Int) < (vn : Int)) = true := by simp; omega
              clear hbel e0 k1 k2 hvl
              go_wp2_with fail
              go_quiet (fail)
              go_wp2_with fail
              go_roundw
              case rel => exact ⟨j + 1, by go_num, by omega, Lib.hid ((((HSQ.out.drew _).next ((j + 1) * 2) (by omega)).set rfl _ _ (by omega)).set rfl _ _ (by omega))⟩
              case measure => simp [intOf]; omega
            · obtain ⟨x0, y0⟩ := HSQ.out.room gv rfl (j * 2) (by omega)
              obtain ⟨x1, y1⟩ := HSQ.out.room gv rfl (j * 2 + 1) (by omega)
              have i4 : decide ((j : Int) < (vn : Int)) = false := by simp; omega
              clear hbel
              go_wp2_with fail
              go_quiet (fail)
              go_wp2_with fail
              go_roundw
              case rel => exact ⟨j + 1, by go_num, by omega, Lib.hid ((((HSQ.out.drew _).next ((j + 1) * 2) (by omega)).set rfl _ _ (by omega)).set rfl _ _ (by omega))⟩
              case measure => simp [intOf]; omega
          · have hjk : j = vn + 1 := by omega
            subst hjk
            clear hbel n12
            obtain ⟨w12, rfl⟩ : ∃ w12, w12 = wr := ⟨_, rfl⟩
            have HG12 : Hid (w12.ownsRow w7.heap.size 51 2 (.slice ia8 T.1.1.length ic8) T.1.1.length (itemsV T.1.1)) := Lib.hid (own_block HG11.out (fun j hj => HSQ.out.mv.block j (HG11.out.lt j hj).2 (by rw [HCC.out.2.2.1 j hj]; omega)))
            have HBD12 := Lib.hid (HBD11.out.turn HSQ.out.mv (by decide))
            have HNL : Hid (T.1.1.length ≤ 1048576) := Lib.hid (by
              have hl1 := (wtake_len s (wOf e) vs).1
              rw [← HTR.out.1] at hl1
              have h3 := HH.out.ord
              have hq := HAV.out.2.2.2.2.2.2
              omega)
            obtain ⟨gn, hgn⟩ : ∃ gn, T.1.1.length = gn := ⟨_, rfl⟩
            rw [hgn] at HG12 HNL HCC
            rw [hgn]
            go_wp2_with fail
            go_loopw [16] (fun iv wr => ∃ j : Nat, iv = .int .i64 j ∧ j ≤ gn ∧ Hid (SpAt C10 14 w12 wr ia8 (gn * 2) (j * 2))) (fun iv _ => gn - (intOf iv).toNat)
            case atStart => exact ⟨0, rfl, Nat.zero_le _, Lib.hid (by rw [Nat.zero_mul]; exact SpAt.start HG12.out HCC.out.2.2.1)⟩
            case round =>
              obtain ⟨j, rfl, hj', HSG⟩ := hrel
              by_cases hjn : j < gn
              · have i1 : (0 : Int) ≤ (j : Int) := by omega
                have i2 : (j : Int) < (gn : Int) := by omega
                have ew : IntKind.i64.wrap ((j : Int) + 1) = (j : Int) + 1 := IntWalk.i64_in _ (by have := HNL.out; omega)
                obtain ⟨g8, e8⟩ : ∃ g8, ia8 = some ⟨g8, 0, none⟩ := by
                  obtain ⟨a', c', e1, h1, h2, h3⟩ := own_slice HG12.out
                  injection e1 with e1 _ _
                  subst e1
                  cases ia8 with
                  | none => have := h2 rfl; omega
                  | some ad => obtain ⟨g, rfl, _⟩ := h3 _ rfl; exact ⟨g, rfl⟩
                subst e8
                have fz := HSG.out.free g8 rfl
                obtain ⟨x0, y0⟩ := HSG.out.room g8 rfl (j * 2) (by omega)
                obtain ⟨x1, y1⟩ := HSG.out.room g8 rfl (j * 2 + 1) (by omega)
                go_wp2_with fail
                go_roundw
                case rel => exact ⟨j + 1, by go_num, by omega, Lib.hid (((HSG.out.next ((j + 1) * 2) (by omega)).set rfl _ _ (by omega)).set rfl _ _ (by omega))⟩
                case measure => simp [intOf]; omega
              · have hjk : j = gn := by omega
                subst hjk
                obtain ⟨w13, rfl⟩ : ∃ w13, w13 = wr := ⟨_, rfl⟩
                have hbd := HBD12.out.turn HSG.out.mv (by decide)
                have HBD13 := Lib.hid hbd
                have HWG : Hid (Calls Tryz.prog 9 #[.pointer (some ⟨wb, 0, none⟩)] w13 fun r w' => ∃ a n c, r = .returned (.slice a n c) ∧ n = (wwaiting T.2).length ∧ IntsNew w13 w' (.slice a n c) (wwaiting T.2)) := Lib.hid (waiting_any hbd.W (by have := hbd.ord; have := HAV.out.2.2.2.2.2.2; omega))
                clear hbd
                go_wp2_with fail
                (with_reducible refine HWG.out.mono ?_)
                rintro r w14 ⟨xa, xn, xc, rfl, hxn, hx14⟩
                have HX14 := Lib.hid (⟨hxn, hx14⟩ : _ ∧ _)
                have HRW : Hid (Calls Tryz.prog 15 #[.pointer (some ⟨mb, 0, none⟩)] w14 fun r w' => ∃ a k c, r = .returned (.slice a k c) ∧ k = (R.2.nodes.map (·.num)).length ∧ IntsNew w14 w' (.slice a k c) (R.2.nodes.map (·.num))) := Lib.hid (rwaiting_any (HBD13.out.R.below hx14.2) (by have := HBD13.out.sim.nodesLen; have := HBD13.out.ord; have := HAV.out.2.2.2.2.2.2; omega))
                clear hxn hx14
                go_wp2_with fail
                (with_reducible refine HRW.out.mono ?_)
                rintro r w15 ⟨ya, yn, yc, rfl, hyn, hy15⟩
                have hwl : (wwaiting T.2).length ≤ 1048576 := by
                  have h1 := live_len T.2.nodes T.2.order
                  have h2 := HBD13.out.ord
                  have h3 := HAV.out.2.2.2.2.2.2
                  have h4 : (wwaiting T.2).length = (live T.2.nodes T.2.order).length := by unfold wwaiting; simp
                  omega
                have HNB1 : Hid (Calls Tryz.prog 14 #[.slice xa xn xc, .slice ya yn yc] w15 fun r w' => r = .returned (.bool true) ∧ Below w15.heap.size w15 w') := Lib.hid (by
                  have h1 := HX14.out.2.1
                  have h2 := hy15.1
                  rw [← HX14.out.1] at h1
                  rw [← hyn] at h2
                  have h3 := own_ints h2
                  rw [← waiting_same HBD13.out.sim] at h3
                  exact numbers_any xa ya xn yn xc yc (wwaiting T.2) w15 ((own_ints h1).below hy15.2) h3 (by rw [HX14.out.1]; exact hwl))
                have HB15 := Lib.hid hy15.2
                clear hyn hy15 hwl
                go_wp2_with fail
                (with_reducible refine HNB1.out.mono ?_)
                rintro r w16 ⟨rfl, hb16⟩
                have HB16 : Hid (Below w14.heap.size w14 w16) := Lib.hid (HB15.out.trans (hb16.mono HB15.out.size))
                clear hb16
                have hbd := (HBD13.out.below HX14.out.2.2).below HB16.out
                have HBD16 := Lib.hid hbd
                have HHD : Hid (Calls Tryz.prog 8 #[.pointer (some ⟨wb, 0, none⟩)] w16 fun r w' => r = .returned (.int .i64 (IntKind.i64.wrap (wheld T.2))) ∧ (∃ ov', WAt C10 w' wb tb pm fp8 ov' lv8 { T.2 with order := wfirst T.2.nodes T.2.order } first8 f8 n8') ∧ Mv C10 1 7 w16 w' ∧ w'.heap.size = w16.heap.size) := Lib.hid (held_any hbd.W (by have := hbd.ord; have := HAV.out.2.2.2.2.2.2; omega))
                clear hbd
                obtain ⟨HV, hHV⟩ : ∃ HV, IntKind.i64.wrap (wheld T.2) = HV := ⟨_, rfl⟩
                rw [hHV] at HHD
                have HHVE := Lib.hid hHV
                clear hHV
                go_wp2_with fail
                (with_reducible refine HHD.out.mono ?_)
                rintro r w17 ⟨rfl, ⟨ov9, hW17⟩, hM17, hs17⟩
                have HBD17 := Lib.hid (HBD16.out.held hW17 hM17)
                have HM17 := Lib.hid hM17
                have HRH : Hid (Calls Tryz.prog 16 #[.pointer (some ⟨mb, 0, none⟩)] w17 fun r w' => r = .returned (.int .i64 HV) ∧ Eqv w17 w') := Lib.hid (by
                  have h1 := rheld_any HBD17.out.R (by have := HBD16.out.sim.nodesLen; have := HBD16.out.ord; have := HAV.out.2.2.2.2.2.2; omega)
                  rw [← held_same HBD16.out.sim, HHVE.out] at h1
                  exact h1)
                clear hW17 hM17 hs17
                go_wp2_with fail
                (with_reducible refine HRH.out.mono ?_)
                rintro r w18 ⟨rfl, hq18⟩
                have HB18 := Lib.hid hq18.below
                clear hq18
                have hxo : w18.ownsRow w13.heap.size 3 1 (.slice xa xn xc) xn ((wwaiting T.2).map (.int .i64)) := by
                  have h1 := HX14.out.2.1
                  rw [← HX14.out.1] at h1
                  have h2 := own_block (w' := w16) h1 (fun j hj => HB16.out.block j (h1.lt j hj).2)
                  have h3 := own_block (w' := w17) h2 (fun j hj => HM17.out.block j (h2.lt j hj).2 (by rw [HBD13.out.W.top j (h2.lt j hj).1]; omega))
                  exact own_block h3 (fun j hj => HB18.out.block j (h3.lt j hj).2)
                have HXO := Lib.hid hxo
                obtain ⟨C11, hC11⟩ : ∃ C11, C11 = recol C10 (.slice xa xn xc) 15 := ⟨_, rfl⟩
                have HBD18 : Hid (BothAt w0.heap.size w0 wb mb (q + (wtE o + vs.length + 2)) C11 w18 tb pm fp8 ov9 lv8 first8 f8 n8' ev9 rov9 nv9 l' { T.2 with order := wfirst T.2.nodes T.2.order } R.2) := Lib.hid (by
                  rw [hC11]
                  exact (HBD17.out.below HB18.out).recol _ 15 (fun j hj => ⟨HBD13.out.W.top j (hxo.lt j hj).1, Nat.le_trans HBD13.out.size (hxo.lt j hj).1, (hxo.lt j hj).2⟩))
                have HC11 : Hid (∀ j, (Value.slice xa xn xc).ownBlock = some j → C11 j = 15) := Lib.hid (fun j hj => by rw [hC11, recol_self hj])
                have HXN : Hid (xn ≤ 1048576) := Lib.hid (by
                  have h1 := live_len T.2.nodes T.2.order
                  have h2 := HBD13.out.ord
                  have h3 := HAV.out.2.2.2.2.2.2
                  have h4 : (wwaiting T.2).length = (live T.2.nodes T.2.order).length := by unfold wwaiting; simp
                  have h5 := HX14.out.1
                  omega)
                clear hxo hC11
                go_upto_region 29 with fail
                go_wp2_with fail
                go_loopw [18] (fun iv wr => ∃ j : Nat, iv = .int .i64 j ∧ j ≤ xn ∧ Hid (SpAt C11 15 w18 wr xa (xn * 1) j)) (fun iv _ => xn - (intOf iv).toNat)
                case atStart => exact ⟨0, rfl, Nat.zero_le _, Lib.hid (SpAt.start HXO.out HC11.out)⟩
                case round =>
                  obtain ⟨j, rfl, hj', HSX⟩ := hrel
                  by_cases hjn : j < xn
                  · have i1 : (0 : Int) ≤ (j : Int) := by omega
                    have i2 : (j : Int) < (xn : Int) := by omega
                    have ew : IntKind.i64.wrap ((j : Int) + 1) = (j : Int) + 1 := IntWalk.i64_in _ (by have := HXN.out; omega)
                    obtain ⟨g8, e8⟩ : ∃ g8, xa = some ⟨g8, 0, none⟩ := by
                      obtain ⟨a', c', e1, h1, h2, h3⟩ := own_slice HXO.out
                      injection e1 with e1 _ _
                      subst e1
                      cases xa with
                      | none => have := h2 rfl; omega
                      | some ad => obtain ⟨g, rfl, _⟩ := h3 _ rfl; exact ⟨g, rfl⟩
                    subst e8
                    have fz := HSX.out.free g8 rfl
                    obtain ⟨x0, y0⟩ := HSX.out.room g8 rfl j (by omega)
                    go_wp2_with fail
                    go_roundw
                    case rel => exact ⟨j + 1, by go_num, by omega, Lib.hid ((HSX.out.next (j + 1) (by omega)).set rfl _ _ (by omega))⟩
                    case measure => simp [intOf]; omega
                  · have hjk : j = xn := by omega
                    subst hjk
                    obtain ⟨w19, rfl⟩ : ∃ w19, w19 = wr := ⟨_, rfl⟩
                    have hbd := HBD18.out.turn HSX.out.mv (by decide)
                    have HBD19 := Lib.hid hbd
                    obtain ⟨s2, hs2⟩ : ∃ s2 : WSt, { T.2 with order := wfirst T.2.nodes T.2.order } = s2 := ⟨_, rfl⟩
                    rw [hs2] at hbd HBD19
                    have HWG2 : Hid (Calls Tryz.prog 9 #[.pointer (some ⟨wb, 0, none⟩)] w19 fun r w' => ∃ a n c, r = .returned (.slice a n c) ∧ n = (wwaiting s2).length ∧ IntsNew w19 w' (.slice a n c) (wwaiting s2)) := Lib.hid (waiting_any hbd.W (by have := hbd.ord; have := HAV.out.2.2.2.2.2.2; omega))
                    clear hbd
                    go_wp2_with fail
                    (with_reducible refine HWG2.out.mono ?_)
                    rintro r w20 ⟨za, zn, zc, rfl, hzn, hz20⟩
                    have HZ20 := Lib.hid (⟨hzn, hz20⟩ : _ ∧ _)
                    have HRW2 : Hid (Calls Tryz.prog 15 #[.pointer (some ⟨mb, 0, none⟩)] w20 fun r w' => ∃ a k c, r = .returned (.slice a k c) ∧ k = (R.2.nodes.map (·.num)).length ∧ IntsNew w20 w' (.slice a k c) (R.2.nodes.map (·.num))) := Lib.hid (rwaiting_any (HBD19.out.R.below hz20.2) (by have := HBD13.out.sim.nodesLen; have := HBD13.out.ord; have := HAV.out.2.2.2.2.2.2; omega))
                    clear hzn hz20
                    go_wp2_with fail
                    (with_reducible refine HRW2.out.mono ?_)
                    rintro r w21 ⟨ua, un, uc, rfl, hun, hu21⟩
                    have hwl : (wwaiting s2).length ≤ 1048576 := by
                      have h1 := live_len s2.nodes s2.order
                      have h2 := HBD19.out.ord
                      have h3 := HAV.out.2.2.2.2.2.2
                      have h4 : (wwaiting s2).length = (live s2.nodes s2.order).length := by unfold wwaiting; simp
                      omega
                    have HNB2 : Hid (Calls Tryz.prog 14 #[.slice za zn zc, .slice ua un uc] w21 fun r w' => r = .returned (.bool true) ∧ Below w21.heap.size w21 w') := Lib.hid (by
                      have h1 := HZ20.out.2.1
                      have h2 := hu21.1
                      rw [← HZ20.out.1] at h1
                      rw [← hun] at h2
                      have h3 := own_ints h2
                      rw [← waiting_same HBD19.out.sim] at h3
                      exact numbers_any za ua zn un zc uc (wwaiting s2) w21 ((own_ints h1).below hu21.2) h3 (by rw [HZ20.out.1]; exact hwl))
                    have HB21 := Lib.hid hu21.2
                    clear hun hu21 hwl
                    go_wp2_with fail
                    (with_reducible refine HNB2.out.mono ?_)
                    rintro r w22 ⟨rfl, hb22⟩
                    have HB22 : Hid (Below w20.heap.size w20 w22) := Lib.hid (HB21.out.trans (hb22.mono HB21.out.size))
                    clear hb22
                    go_wp2_with fail
                    go_ret
                    exact ⟨rfl, C11, _, _, _, _, _, _, _, _, _, _, _, _, (HBD19.out.below HZ20.out.2.2).below HB22.out⟩
end Go.Proofs.YtmnloeolacmemaaGreat
