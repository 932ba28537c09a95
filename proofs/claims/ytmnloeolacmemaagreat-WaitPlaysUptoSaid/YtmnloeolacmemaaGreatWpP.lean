/-
  wait.Take of an event that comes next, with verdicts that fit.
-/
import Derived.Test.YtmnloeolacmemaaGreatWpO
import Derived.Deep.CutRange
import Derived.Deep.CutBlock
namespace Go.Proofs.YtmnloeolacmemaaGreat
open Go.RowKit

/-- between the world w of the call and wx; the event's box -/
structure TkAt (C : Nat → Nat) (w : World) (bo : Obj) (C' : Nat → Nat) (wx : World) : Prop where
  mv : Mv C 1 7 w wx
  pt : Paint C C' w wx
  bx : wx.heap[w.heap.size]? = some bo
  bc : C' w.heap.size = 0
section
variable {C C' C'' : Nat → Nat} {w wx wy : World} {bo : Obj}
theorem TkAt.next (h : TkAt C w bo C' wx) (hm : Mv C' 1 7 wx wy) (hp : Paint C' C'' wx wy) : TkAt C w bo C'' wy :=
  ⟨h.mv.andThen h.pt hm, h.pt.trans h.mv.size hp, (hm.block _ (heap_lt h.bx) (by rw [h.bc]; omega)).trans h.bx, (hp.old _ (heap_lt h.bx)).trans h.bc⟩
theorem TkAt.same (h : TkAt C w bo C' wx) (hm : Mv C' 1 7 wx wy) : TkAt C w bo C' wy := h.next hm (Paint.refl h.pt.top hm.size)
theorem TkAt.below (h : TkAt C w bo C' wx) (hb : Below wx.heap.size wx wy) : TkAt C w bo C' wy := h.same (Mv.below hb)
end
theorem VsAt.mv {C : Nat → Nat} {w w' : World} {a : Option Addr} {n : Nat} {vs : List (Int × Int)} (h : VsAt w a n vs) (hc : ∀ ad, a = some ad → C ad.block = 0) (hm : Mv C 1 7 w w') : VsAt w' a n vs :=
  ⟨h.len, fun i hi => by
    obtain ⟨b, o, h1, h2, h3, h4⟩ := h.cell i hi
    have hb := hm.block b h2 (by rw [hc _ h1]; omega)
    exact ⟨b, o, h1, Nat.lt_of_lt_of_le h2 hm.size, (World.cell?_of_block (a := ⟨b, o + i * 2, none⟩) hb).trans h3, (World.cell?_of_block (a := ⟨b, o + i * 2 + 1, none⟩) hb).trans h4⟩⟩
/-- what Take leaves -/
def RetTake (C : Nat → Nat) (w : World) (wb tb mb n k : Nat) (its : List (Int × List UInt8)) (er : Int) (s' : WSt) (front' : Nat) (r : Ending) (w' : World) : Prop :=
  ∃ C' fp' ov' lv' first' ia ic n', r = .returned (.tuple #[.slice ia its.length ic, .int .i64 er]) ∧ WAt C' w' wb tb mb fp' ov' lv' s' first' front' n' ∧ ItemsAt C' w.heap.size w' (.slice ia its.length ic) its ∧ Mv C 1 7 w w' ∧ Paint C C' w w' ∧ n' ≤ n + k
/-- the event's box -/
theorem box_cells {w : World} {b : Nat} {x0 x1 x2 x3 x4 x5 x6 x7 : Value} {t : TypeId} (h : w.heap[b]? = some (.cells #[x0, x1, x2, x3, x4, x5, x6, x7] t (0, 0))) :
    w.cell? ⟨b, 0, none⟩ = some x0 ∧ w.cell? ⟨b, 1, none⟩ = some x1 ∧ w.cell? ⟨b, 2, none⟩ = some x2 ∧ w.cell? ⟨b, 3, none⟩ = some x3 ∧ w.cell? ⟨b, 4, none⟩ = some x4 ∧ w.cell? ⟨b, 5, none⟩ = some x5 ∧ w.cell? ⟨b, 6, none⟩ = some x6 ∧ w.cell? ⟨b, 7, none⟩ = some x7 := by
  simp only [cell_heap h]
  exact ⟨rfl, rfl, rfl, rfl, rfl, rfl, rfl, rfl⟩
theorem infoOpened : (Tryz.prog.info? 72).map (fun i => (i.zero, i.size, i.bytes)) = some (some (.agg #[.int .i64 0, .int .i64 0]), 2, 16) := by kernel_rfl
theorem elemOpeneds : Tryz.prog.elem 55 = 72 := by kernel_rfl
theorem sizeOpened (w : World) : (sizeOf 72).run Tryz.prog w = .ok 2 w := by kernel_rfl
theorem opnV_len (l : List (Int × Int)) : (opnV l).length = l.length * 2 := by
  induction l with
  | nil => rfl
  | cons a m ih => unfold opnV at *; rw [List.flatMap_cons, List.length_append, ih]; simp; omega
/-- the state behind the switch -/
def wmid (s : WSt) (e : WEv) : WSt :=
  { nodes := wwhole e (s.all ++ e.piece).length s.nodes, order := s.order, opn := if e.kind = 2 then s.opn.dropLast else if e.kind = 0 then s.opn ++ [(e.num, e.frm)] else s.opn, next := s.next, last := e.to', all := s.all ++ e.piece }

theorem wverd_del {e : WEv} {b n : Nat} {st : (Int → Option WN) × List Int} {y : Int} (h : ¬ (e.kind ≠ 2 ∧ y = e.num)) : wverd e b n st (y, 0) = (wupd st.1 y none, st.2) := by
  simp only [wverd]; rw [if_neg h, if_pos trivial]
theorem wverd_tru {e : WEv} {b n : Nat} {st : (Int → Option WN) × List Int} {y : Int} {x : WN} (h : ¬ (e.kind ≠ 2 ∧ y = e.num)) (hx : st.1 y = some x) : wverd e b n st (y, 2) = (wupd st.1 y (some { x with truth := 2 }), st.2) := by
  simp only [wverd]; rw [if_neg h, if_neg (by decide), hx]
theorem wverd_own {e : WEv} {b n : Nat} {st : (Int → Option WN) × List Int} {y t : Int} (h : e.kind ≠ 2 ∧ y = e.num) : wverd e b n st (y, t) = (wupd st.1 y (some ⟨t, decide (e.kind = 1), e.frm, b, n⟩), st.2 ++ [y]) := by
  simp only [wverd]; rw [if_pos h]
theorem wcomes_kind {s : WSt} {e : WEv} (h : wcomes s e = true) : e.kind = 0 ∨ e.kind = 1 ∨ (e.kind = 2 ∧ s.opn ≠ []) := by
  by_cases h0 : e.kind = 0
  · exact .inl h0
  by_cases h1 : e.kind = 1
  · exact .inr (.inl h1)
  by_cases h2 : e.kind = 2
  · refine .inr (.inr ⟨h2, fun hn => ?_⟩)
    simp [wcomes, h2, hn] at h
  · simp [wcomes, h0, h1, h2] at h
set_option maxRecDepth 1000000 in
set_option maxHeartbeats 40000000 in
theorem take_ok {C : Nat → Nat} {w : World} {wb tb mb : Nat} {fp : Int → Option Nat} {ov lv : Value} {s : WSt} {first front n : Nat} (h : WAt C w wb tb mb fp ov lv s first front n)
    (e : Ev) (A : Option Addr) (m c : Nat) (hA : AttrsAt w A m e.ats) (hmc : m ≤ c) (hwt : wtE e ≤ 1048576) (hwe : Wf e.num) (hsm : s.all.length + (evOut e).length ≤ 1099511627776)
    (a : Option Addr) (k cv : Nat) (vs : List (Int × Int)) (hV : VsAt w a k vs) (hVc : ∀ ad, a = some ad → C ad.block = 0) (hwf : ∀ v ∈ vs, Wf v.1)
    (hop : s.opn.length + 1 ≤ 1048576) (hor : s.order.length + k ≤ 1048576) (hn : n + k ≤ 1048576) (hnx : 0 ≤ s.next ∧ s.next + 1 ≤ 1048576)
    (hc : wcomes s (wOf e) = true) (hg : gfit (fun j => (s.nodes j).map (·.truth)) (wOf e) none vs = true)
    (hcuts : ∀ p ∈ live (vs.foldl (wverd (wOf e) s.all.length (s.all ++ evOut e).length) (wwhole (wOf e) (s.all ++ evOut e).length s.nodes, s.order)).1 (vs.foldl (wverd (wOf e) s.all.length (s.all ++ evOut e).length) (wwhole (wOf e) (s.all ++ evOut e).length s.nodes, s.order)).2, front ≤ p.2.bgn ∧ p.2.bgn ≤ p.2.fin ∧ p.2.fin ≤ (s.all ++ evOut e).length) :
    Calls Tryz.prog 7 #[.pointer (some ⟨wb, 0, none⟩), .agg (evC e.kind e.num e.dep e.name A m c e.text e.fr e.tt), .slice a k cv] w fun r w' =>
      RetTake C w wb tb mb n k (wtake s (wOf e) vs).1.1 (wtake s (wOf e) vs).1.2 (wtake s (wOf e) vs).2 (wdropped (wtake s (wOf e) vs).2.nodes (wtake s (wOf e) vs).2.order (s.all ++ evOut e).length front) r w' := by
  have hk : k ≤ 1048576 := by omega
  have hbo : ∀ o, TkAt C w o C (w.alloc o) := fun o => ⟨(Mv.refl C 1 7 w).alloc o, Paint.refl h.top (by simp), heap_alloc_new w o, h.top _ (Nat.le_refl _)⟩
  have hcm := fun W (hb : Below w.heap.size w W) => comes_any (h.below hb) e.kind e.num e.dep e.fr e.tt e.name e.text A m c (evOut e) (by omega)
  have hft := fun W (hb : Below w.heap.size w W) => fit_any (h.below hb) e.kind e.num e.dep e.fr e.tt e.name e.text A m c (evOut e) a k cv vs (hV.below hb) hk hwf
  have e1 : wcomes s ⟨e.kind, e.num, e.fr, e.tt, evOut e⟩ = true := hc
  have e2 : gfit (fun j => (s.nodes j).map (·.truth)) ⟨e.kind, e.num, e.fr, e.tt, evOut e⟩ none vs = true := hg
  simp only [e1] at hcm
  simp only [e2] at hft
  have HCM := Lib.hid hcm
  have HFT := Lib.hid hft
  have HH := Lib.hid h
  have HT : Hid (∀ it er s', wtake s (wOf e) vs = ((it, er), s') → (wtake s (wOf e) vs).1.1 = it ∧ (wtake s (wOf e) vs).1.2 = er ∧ (wtake s (wOf e) vs).2 = s') := Lib.hid fun it er s' he => by rw [he]; exact ⟨rfl, rfl, rfl⟩
  obtain ⟨T, hT⟩ : ∃ T, tellW (fun x y => ((s.all ++ evOut e).drop x).take (y - x)) (vs.foldl (wverd (wOf e) s.all.length (s.all ++ evOut e).length) (wwhole (wOf e) (s.all ++ evOut e).length s.nodes, s.order)).1 (vs.foldl (wverd (wOf e) s.all.length (s.all ++ evOut e).length) (wwhole (wOf e) (s.all ++ evOut e).length s.nodes, s.order)).2 = T := ⟨_, rfl⟩
  have hw1 : wtake s (wOf e) vs = ((T.1, 0), ⟨T.2.1, T.2.2, (wmid s (wOf e)).opn, if e.kind = 2 then s.next else s.next + 1, e.tt, s.all ++ evOut e⟩) := by
    unfold wtake
    rw [if_pos ⟨hc, hg⟩, ← hT]
    rfl
  rw [hw1]
  simp only
  obtain ⟨S9, hS9⟩ : ∃ S9 : WSt, S9 = ⟨T.2.1, T.2.2, (wmid s (wOf e)).opn, if e.kind = 2 then s.next else s.next + 1, e.tt, s.all ++ evOut e⟩ := ⟨_, rfl⟩
  obtain ⟨F9, hF9⟩ : ∃ F9 : Nat, F9 = wdropped T.2.1 T.2.2 (s.all ++ evOut e).length front := ⟨_, rfl⟩
  rw [← hS9, ← hF9]
  have HS9 := Lib.hid (⟨hS9, hF9⟩ : _ ∧ _)
  clear hS9 hF9
  have HTT := Lib.hid hT
  have HA := Lib.hid hA
  have HV := Lib.hid (⟨hV, hVc, hwf, hg, hcuts, hwe, hc⟩ : _ ∧ _ ∧ _ ∧ _ ∧ _ ∧ _ ∧ _)
  have HBO := Lib.hid hbo
  clear hw1 HT hT hcm hft e1 e2 hbo hA hV hVc hwf hg hcuts hwe h
  unfold evC at *
  go_enter Tryz.func7, Tryz.ntmps7
  go_wp2_with fail
  have HB0 := Lib.hid ((Below.refl w.heap.size w).alloc (Nat.le_refl _) (.cells #[.int .i64 e.kind, .int .i64 e.num, .int .i64 e.dep, .string (strL e.name), .slice A m c, .string (strL e.text), .int .i64 e.fr, .int .i64 e.tt] 36))
  have HK0 := Lib.hid (HBO.out (.cells #[.int .i64 e.kind, .int .i64 e.num, .int .i64 e.dep, .string (strL e.name), .slice A m c, .string (strL e.text), .int .i64 e.fr, .int .i64 e.tt] 36))
  obtain ⟨bo, hbo⟩ : ∃ bo : Obj, bo = (.cells #[.int .i64 e.kind, .int .i64 e.num, .int .i64 e.dep, .string (strL e.name), .slice A m c, .string (strL e.text), .int .i64 e.fr, .int .i64 e.tt] 36) := ⟨_, rfl⟩
  have HBC : Hid (∀ {C' : Nat → Nat} {wx : World}, TkAt C w bo C' wx → wx.heap[w.heap.size]? = some (.cells #[.int .i64 e.kind, .int .i64 e.num, .int .i64 e.dep, .string (strL e.name), .slice A m c, .string (strL e.text), .int .i64 e.fr, .int .i64 e.tt] 36)) := Lib.hid fun h => by rw [← hbo]; exact h.bx
  rw [← hbo] at HB0 HK0 ⊢
  clear hbo
  generalize w.alloc bo = W0 at *
  (with_reducible refine (HCM.out _ HB0.out).mono ?_)
  rintro r w2 ⟨rfl, hb2⟩
  have hk2 : TkAt C w bo C w2 := HK0.out.below hb2
  have HB2 := Lib.hid (HB0.out.trans (hb2.mono HB0.out.size))
  obtain ⟨q0, q1, q2, q3, q4, q5, q6, q7⟩ := box_cells (HBC.out hk2)
  have HK2 := Lib.hid hk2
  clear hb2 hk2
  go_wp2_with fail
  (with_reducible refine (HFT.out _ HB2.out).mono ?_)
  rintro r w3 ⟨rfl, hb3⟩
  have hk3 : TkAt C w bo C w3 := HK2.out.below hb3
  have hW3 : WAt C w3 wb tb mb fp ov lv s first front n := HH.out.below (HB2.out.trans (hb3.mono HB2.out.size))
  have HB3 := Lib.hid (HB2.out.trans (hb3.mono HB2.out.size))
  clear q0 q1 q2 q3 q4 q5 q6 q7 hb3
  obtain ⟨m0, _, _, _, _, _⟩ := hW3.cells
  have HPL := Lib.hid hW3.place
  have HK3 := Lib.hid hk3
  have HW3 := Lib.hid hW3
  clear hk3 hW3
  go_wp2_with fail
  (with_reducible refine (HPL.out _ ?_).mono ?_)
  · exact Eqv.refl _
  rintro r w4 ⟨rfl, hq4⟩
  have HW4 := Lib.hid (HW3.out.eqv hq4)
  have HK4 := Lib.hid (HK3.out.below hq4.below)
  have HB4 := Lib.hid (HB3.out.trans (hq4.below.mono HB3.out.size))
  have HADD := Lib.hid (HW4.out.addc e A m c)
  unfold evC at HADD
  clear m0 hq4 HPL HCM HFT
  obtain ⟨m0, _, _, _, _, _⟩ := HW4.out.cells
  obtain ⟨q0, q1, q2, q3, q4, q5, q6, q7⟩ := box_cells (HBC.out HK4.out)
  go_upto_region 6 with fail
  go_cut [] from 30 to 35 (fun wx => ∃ C', WAt C' wx wb tb mb fp ov lv { s with all := s.all ++ evOut e } first front n ∧ TkAt C w bo C' wx)
  case first =>
    go_region_with (first | (go_at_call 20; (with_reducible refine (HADD.out _ ?_ (HA.out.below HB4.out) hmc hwt hsm).mono ?_); exact ⟨_, rfl⟩; rintro e9 w9 ⟨rfl, C9, hW9, hM9, hP9⟩))
    all_goals
      have HX := Lib.hid (⟨hW9, hM9, hP9⟩ : _ ∧ _ ∧ _)
      clear hW9 hM9 hP9
      go_wp2_with fail
      go_meet
      exact ⟨_, HX.out.1, HK4.out.next HX.out.2.1 HX.out.2.2⟩
  case rest =>
    obtain ⟨C5, hW5, hK5⟩ := hcut
    obtain ⟨m0, m1, m2, m3, m4, m5⟩ := hW5.cells
    have f5 := hW5.froz 5
    obtain ⟨q0, q1, q2, q3, q4, q5, q6, q7⟩ := box_cells (HBC.out hK5)
    have HL5 := Lib.hid (hW5.setLast e.tt)
    have HK5 := Lib.hid hK5
    clear hW5 hK5 HADD HB4 HK4 HW4 HW3 HK3 HB3
    go_upto_block 0 with fail
    obtain ⟨hW6, hM6, hs6⟩ := HL5.out
    generalize wc.setCell ⟨wb, 5, none⟩ (.int .i64 e.tt) = w6 at *
    have hK6 : TkAt C w bo C5 w6 := HK5.out.same hM6
    have HW6 := Lib.hid hW6
    have HK6 := Lib.hid hK6
    clear hM6 hs6 HL5 m0 m1 m2 m3 m4 m5 f5 q0 q1 q2 q3 q4 q5 q6 q7 HK5
    obtain ⟨m0, m1, m2, m3, m4, m5⟩ := hW6.cells
    have f3 := hW6.froz 3
    obtain ⟨q0, q1, q2, q3, q4, q5, q6, q7⟩ := box_cells (HBC.out hK6)
    go_cut [9] from 44 to 94 (fun s9 wx => ∃ C' lv', WAt C' wx wb tb mb fp ov lv' (wmid s (wOf e)) first front n ∧ TkAt C w bo C' wx)
    case first =>
      have hcv := HV.out.2.2.2.2.2.2
      have hk3 : e.kind = 0 ∨ e.kind = 1 ∨ (e.kind = 2 ∧ s.opn ≠ []) := wcomes_kind hcv
      clear hcv
      rcases hk3 with hk0 | hk1 | ⟨hk2, hon⟩
      · -- Open
        have hmid : wmid s (wOf e) = { s with last := e.tt, all := s.all ++ evOut e, opn := s.opn ++ [(e.num, e.fr)] } := by
          simp only [wmid, wOf, wwhole, hk0]
          simp
        have HMID := Lib.hid hmid
        obtain ⟨i0, hi, hz0, hz1, hz2⟩ := info_parts infoOpened
        have HQO : Hid (∀ W o, W.heap = (w6.alloc o).heap → QRow W 72 2 lv s.opn.length (opnV s.opn)) := Lib.hid fun W o hq => hW6.opn.keep (fun k hk => by rw [hq]; exact heap_alloc_old _ _ (hW6.lt0 (by rw [hW6.cl k hk]; decide)))
        have HFA : Hid (∀ o v' w', App (w6.alloc o) w' lv v' → w'.heap[wb]? = w6.heap[wb]?) := Lib.hid fun o v' w' hap => (hW6.appC hap 5 hW6.cl (by decide) (by decide)).1 wb (hW6.lt0 (by rw [hW6.cw]; decide)) (by rw [hW6.cw]; decide)
        have HPU : Hid (∀ o v' w', App (w6.alloc o) w' lv v' → QRow w' 72 2 v' (s.opn.length + 1) (opnV s.opn ++ [.int .i64 e.num, .int .i64 e.fr]) → ∃ C', WAt C' (w'.setCell ⟨wb, 3, none⟩ v') wb tb mb fp ov v' { s with last := e.tt, all := s.all ++ evOut e, opn := s.opn ++ [(e.num, e.fr)] } first front n ∧ TkAt C w bo C' (w'.setCell ⟨wb, 3, none⟩ v')) := Lib.hid fun o v' w' hap hqr => by
          obtain ⟨g1, g2, g3⟩ := hW6.pushOpn (p := (e.num, e.fr)) hap hqr
          exact ⟨_, g1, hK6.next g2 g3⟩
        have HBK := Lib.hid hW6.blk
        have ma : ∀ o, (w6.alloc o).cell? ⟨wb, 3, none⟩ = some lv := fun o => by rw [cell_heap ((heap_alloc_old w6 o (hW6.lt0 (by rw [hW6.cw]; decide))).trans hW6.blk)]; rfl
        have hopl := hop
        clear hW6 hK6 hmid
        generalize e.kind = kd at *
        subst hk0
        go_wp2_with fail
        go_region_law (first | (refine step_qapp rfl (.tmp 85) (.tmp 91) 55 rfl 72 i0 (.agg #[.int .i64 0, .int .i64 0]) 2 16 Tryz.underlying55 hi hz0 hz1 hz2 (by rfl) (by decide) lv s.opn.length (opnV s.opn) (by rfl) ?_ _ _ [.int .i64 e.num, .int .i64 e.fr] (by rfl) (heap_alloc_new w6 _) (by rfl) (by intro u hu; simp only [List.mem_cons, List.not_mem_nil, or_false] at hu; rcases hu with rfl | rfl <;> rfl) (by omega) (by decide) ?_; exact HQO.out _ _ rfl; intro v7 w7 hq7 hap7; have hap8 : App (w6.alloc (.cells ([.int .i64 e.num, .int .i64 e.fr] : List Value).toArray 72)) w7 lv v7 := ⟨⟨hap7.grown.os, hap7.grown.tape, hap7.grown.output, hap7.grown.size, hap7.grown.block⟩, hap7.own⟩; have d0 := (HFA.out _ _ _ hap8).trans HBK.out; have d3 : w7.cell? ⟨wb, 3, none⟩ = some lv := (by rw [cell_heap d0]; rfl); have f7 := frozen_heap (i := 3) d0; obtain ⟨a7, c7, rfl, _⟩ := hq7.slice))
        all_goals
          have HX := Lib.hid (HPU.out _ _ _ hap8 hq7)
          clear hq7 hap7 hap8 d0 d3 f7
          go_wp2_with fail
          go_meet
          obtain ⟨C9, g1, g2⟩ := HX.out
          exact ⟨C9, _, by rw [HMID.out]; exact g1, g2⟩
      · -- Text
        have hmid : wmid s (wOf e) = { s with last := e.tt, all := s.all ++ evOut e } := by
          simp only [wmid, wOf, wwhole, hk1]
          simp
        have HMID := Lib.hid hmid
        clear hW6 hK6 hmid
        generalize e.kind = kd at *
        subst hk1
        go_wp2_with fail
        go_meet
        exact ⟨_, _, by rw [HMID.out]; exact HW6.out, HK6.out⟩
      · -- Close
        have hmid : wmid s (wOf e) = { s with last := e.tt, all := s.all ++ evOut e, opn := s.opn.dropLast, nodes := wwhole (wOf e) (s.all ++ evOut e).length s.nodes } := by
          simp only [wmid, wOf, hk2]
          simp
        have hww : wwhole (wOf e) (s.all ++ evOut e).length s.nodes = (match s.nodes e.num with | none => s.nodes | some x => wupd s.nodes e.num (some { x with whole := true, fin := (s.all ++ evOut e).length })) := by
          simp only [wwhole, wOf, hk2, if_true]
          rfl
        have HMID := Lib.hid (⟨hmid, hww⟩ : _ ∧ _)
        have hol : s.opn = s.opn.dropLast ++ [s.opn.getLast hon] := (List.dropLast_concat_getLast hon).symm
        have hopq := hW6.opn
        obtain ⟨l, hl⟩ : ∃ l, s.opn.dropLast = l := ⟨_, rfl⟩
        obtain ⟨pl, hpl⟩ : ∃ pl, s.opn.getLast hon = pl := ⟨_, rfl⟩
        rw [hl, hpl] at hol
        simp only [hol] at hopq
        rw [List.length_append, List.length_singleton, show opnV (l ++ [pl]) = opnV l ++ opnV [pl] by simp [opnV]] at hopq
        obtain ⟨v9, hs9, hq9, hb9⟩ := hopq.pop1 (P := Tryz.prog) 55 Tryz.underlying55 elemOpeneds sizeOpened (opnV_len l)
        obtain ⟨a9, c9, rfl, _⟩ := hq9.slice
        obtain ⟨g, off, c2, rfl, _, _, _, _⟩ := hopq.here
        obtain ⟨N, hN⟩ : ∃ N, l.length + 1 = N := ⟨_, rfl⟩
        obtain ⟨M, hM⟩ : ∃ M, l.length = M := ⟨_, rfl⟩
        have hNle : N ≤ 1048576 := by have := congrArg List.length hol; simp at this; omega
        have ew : IntKind.i64.wrap ((N : Int) - 1) = (M : Int) := by rw [IntWalk.i64_in _ (by omega)]; omega
        have HS8 : Hid (WAt C5 (w6.setCell ⟨wb, 3, none⟩ (.slice a9 l.length c9)) wb tb mb fp ov (.slice a9 l.length c9) { s with last := e.tt, all := s.all ++ evOut e, opn := l } first front n ∧ TkAt C w bo C5 (w6.setCell ⟨wb, 3, none⟩ (.slice a9 l.length c9))) := Lib.hid (by
          obtain ⟨g1, g2, _⟩ := hW6.setOpn (.slice a9 l.length c9) l hq9 (fun k hk => hW6.cl k (hb9 k hk))
          exact ⟨g1, hK6.same g2⟩)
        rw [hN] at hs9 m3
        rw [hM] at hs9 HS8
        rw [hl] at HMID
        clear hW6 hK6 hmid hww hol hopq hq9 hb9 hl hpl hM hN
        have hkk := hk2
        generalize e.kind = kd at *
        subst hk2
        go_upto_region 10 with fail
        go_cut [] from 45 to 58 (fun wx => WAt C5 wx wb tb mb fp ov (.slice a9 M c9) { s with last := e.tt, all := s.all ++ evOut e, opn := l } first front n ∧ TkAt C w bo C5 wx)
        case first =>
          go_region
          all_goals
            go_wp2_with fail
            go_meet
            exact ⟨HS8.out.1.eqv ⟨_, rfl⟩, HS8.out.2.below (Eqv.below ⟨_, rfl⟩)⟩
        case rest =>
          obtain ⟨hW7, hK7⟩ := hcut
          clear m0 m1 m2 m3 m4 m5 f3 q0 q1 q2 q3 q4 q5 q6 q7 hs9 HS8 HW6 HK6
          obtain ⟨m0, m1, m2, m3, m4, m5⟩ := hW7.cells
          obtain ⟨q0, q1, q2, q3, q4, q5, q6, q7⟩ := box_cells (HBC.out hK7)
          have HPM : Hid (∀ d, PMap Tryz.prog 3 (wc.drewN d) mb n fp) := Lib.hid fun d => hW7.map
          have hwe := HV.out.2.2.2.2.2.1
          cases hx : s.nodes e.num with
          | none =>
            have hlk : ∀ d, (Instr.lookup 54 (.map (some mb)) (.int .i64 e.num) false).run Tryz.prog (wc.drewN d) = .ok (.pointer none) (wc.drewN d) := fun d => by
              have he := (HPM.out d).look undInt undMap (zeroPN _) e.num (keyInt hwe)
              rw [hW7.non e.num hx] at he; exact he
            have hm1 : wmid s (wOf e) = { s with last := e.tt, all := s.all ++ evOut e, opn := l } := by rw [HMID.out.1, HMID.out.2, hx]
            have HM1 := Lib.hid hm1
            have HW7 := Lib.hid (fun d => hW7.drewN d)
            have HK7 := Lib.hid (fun d => hK7.below (Below.drewN (Below.refl _ wc) d))
            clear hW7 hK7 hx hm1 hwe HPM
            go_wp2_with fail
            go_quiet (fail)
            go_wp2_with fail
            go_meet
            exact ⟨_, _, by rw [HM1.out]; exact HW7.out _, HK7.out _⟩
          | some x =>
            obtain ⟨nb, e1, e2, e3⟩ := hW7.nds e.num x hx
            have hlk : ∀ d, (Instr.lookup 54 (.map (some mb)) (.int .i64 e.num) false).run Tryz.prog (wc.drewN d) = .ok (.pointer (some ⟨nb, 0, none⟩)) (wc.drewN d) := fun d => by
              have he := (HPM.out d).look undInt undMap (zeroPN _) e.num (keyInt hwe)
              rw [e1] at he; exact he
            have hm1 : wmid s (wOf e) = { s with last := e.tt, all := s.all ++ evOut e, opn := l, nodes := wupd s.nodes e.num (some { x with whole := true, fin := (s.all ++ evOut e).length }) } := by rw [HMID.out.1, HMID.out.2, hx]
            have HM1 := Lib.hid hm1
            obtain ⟨PLN, hPLN⟩ : ∃ PLN, (s.all ++ evOut e).length = PLN := ⟨_, rfl⟩
            have hpl := hW7.place
            simp only [hPLN] at hpl
            have HPL7 := Lib.hid hpl
            have HN9 : Hid (∀ W, Eqv wc W → W.cell? ⟨nb, 1, none⟩ = some (.bool x.whole) ∧ W.cell? ⟨nb, 4, none⟩ = some (.int .i64 x.fin) ∧ (∀ i, W.frozen? ⟨nb, i, none⟩ = false) ∧ WAt C5 ((W.setCell ⟨nb, 1, none⟩ (.bool true)).setCell ⟨nb, 4, none⟩ (.int .i64 (PLN : Nat))) wb tb mb fp ov (.slice a9 M c9) { s with last := e.tt, all := s.all ++ evOut e, opn := l, nodes := wupd s.nodes e.num (some { x with whole := true, fin := (s.all ++ evOut e).length }) } first front n ∧ TkAt C w bo C5 ((W.setCell ⟨nb, 1, none⟩ (.bool true)).setCell ⟨nb, 4, none⟩ (.int .i64 (PLN : Nat)))) := Lib.hid fun W hq => by
              have hb : W.heap[nb]? = some (.cells #[.int .i64 x.truth, .bool x.whole, .int .i64 x.frm, .int .i64 x.bgn, .int .i64 x.fin] 70 (0, 0)) := by rw [hq.heap]; exact e3
              have hN : NodeIs ((W.setCell ⟨nb, 1, none⟩ (.bool true)).setCell ⟨nb, 4, none⟩ (.int .i64 (PLN : Nat))) nb { x with whole := true, fin := (s.all ++ evOut e).length } := by
                rw [hPLN]; exact setCell_heap (setCell_heap hb _) _
              obtain ⟨g1, g2⟩ := (hW7.eqv hq).node (w' := (W.setCell ⟨nb, 1, none⟩ (.bool true)).setCell ⟨nb, 4, none⟩ (.int .i64 (PLN : Nat))) e1 e2 (by simp [World.setCell]) (fun j hj => (Below.heap_setCell _ _ _ _ hj).trans (Below.heap_setCell _ _ _ _ hj)) hN rfl rfl rfl
              refine ⟨by rw [cell_heap hb]; rfl, by rw [cell_heap hb]; rfl, fun i => frozen_heap hb, g1, (hK7.below hq.below).same g2⟩
            clear hW7 hK7 hx hm1 hwe HPM e1 e2 e3 hpl
            go_wp2_with fail
            go_quiet (fail)
            go_wp2_with fail
            (with_reducible refine (HPL7.out _ ?_).mono ?_)
            · exact ⟨_, rfl⟩
            rintro r w9 ⟨rfl, hq9⟩
            obtain ⟨n1, n4, nf, g1, g2⟩ := HN9.out _ hq9
            have nf1 := nf 1
            have nf4 := nf 4
            have HG := Lib.hid (⟨g1, g2⟩ : _ ∧ _)
            clear nf g1 g2 hq9
            go_wp2_with fail
            go_meet
            exact ⟨_, _, by rw [HM1.out]; exact HG.out.1, HG.out.2⟩
    case rest =>
      obtain ⟨C7, lv7, hW7, hK7⟩ := hcut
      clear m0 m1 m2 m3 m4 m5 f3 q0 q1 q2 q3 q4 q5 q6 q7 HW6 HK6
      obtain ⟨m0, m1, m2, m3, m4, m5⟩ := hW7.cells
      have f4 := hW7.froz 4
      obtain ⟨q0, q1, q2, q3, q4, q5, q6, q7⟩ := box_cells (HBC.out hK7)
      obtain ⟨sm, hsm'⟩ : ∃ sm : WSt, sm = { wmid s (wOf e) with next := if e.kind = 2 then s.next else s.next + 1 } := ⟨_, rfl⟩
      have HSM := Lib.hid hsm'
      have ewn : IntKind.i64.wrap (s.next + 1) = s.next + 1 := IntWalk.i64_in _ (by omega)
      have hnx0 : (wmid s (wOf e)).next = s.next := rfl
      have HW7 := Lib.hid hW7
      have HK7 := Lib.hid hK7
      rw [hnx0] at m4
      clear hW7 hK7 hsm' hnx0
      go_upto_if 97 with fail
      go_cut [] from 95 to 104 (fun wx => WAt C7 wx wb tb mb fp ov lv7 sm first front n ∧ TkAt C w bo C7 wx)
      case first =>
        by_cases hk2 : e.kind = 2
        · have hb : (e.kind != 2) = false := by simp [hk2]
          have hs9 : sm = wmid s (wOf e) := by rw [HSM.out, if_pos hk2]; rfl
          have HS8 := Lib.hid hs9
          clear hs9 hk2
          go_wp2_with fail
          go_meet
          exact ⟨by rw [HS8.out]; exact HW7.out, HK7.out⟩
        · have hb : (e.kind != 2) = true := by simp [hk2]
          have hs9 : sm = { wmid s (wOf e) with next := s.next + 1 } := by rw [HSM.out, if_neg hk2]
          have HS8 := Lib.hid (hs9)
          have HST := Lib.hid (HW7.out.setNext (s.next + 1))
          clear hs9 hk2
          go_wp2_with fail
          go_meet
          exact ⟨by rw [HS8.out]; exact HST.out.1, HK7.out.same HST.out.2.1⟩
      case rest =>
        obtain ⟨hW8, hK8⟩ := hcut
        clear m0 m1 m2 m3 m4 m5 f4 q0 q1 q2 q3 q4 q5 q6 q7 HW7 HK7
        have HW8 := Lib.hid hW8
        have HK8 := Lib.hid hK8
        obtain ⟨PLN, hPLN⟩ : ∃ PLN, (s.all ++ evOut e).length = PLN := ⟨_, rfl⟩
        have hsmn : sm.nodes = wwhole (wOf e) PLN s.nodes := by rw [HSM.out, ← hPLN]; rfl
        have hsmo : sm.order = s.order := by rw [HSM.out]; rfl
        have hsma : sm.all = s.all ++ evOut e := by rw [HSM.out]; rfl
        have hsmp : sm.opn = (wmid s (wOf e)).opn := by rw [HSM.out]
        have hsml : sm.last = e.tt := by rw [HSM.out]; rfl
        have hsmx : sm.next = if e.kind = 2 then s.next else s.next + 1 := by rw [HSM.out]
        have HSS := Lib.hid (⟨hsmn, hsmo, hsma, hsmp, hsml, hsmx, hPLN⟩ : _ ∧ _ ∧ _ ∧ _ ∧ _ ∧ _ ∧ _)
        clear hW8 hK8 hsmn hsmo hsma hsmp hsml hsmx hPLN HSM
        have HKL : Hid (k = vs.length) := Lib.hid HV.out.1.len
        obtain ⟨D, hD⟩ : ∃ D : Nat → (Int → Option WN) × List Int, ∀ i, D i = (vs.take i).foldl (wverd (wOf e) s.all.length PLN) (sm.nodes, sm.order) := ⟨_, fun _ => rfl⟩
        have hD0 : D 0 = (sm.nodes, sm.order) := by rw [hD]; rfl
        have hDs : ∀ i (h : i < vs.length), D (i + 1) = wverd (wOf e) s.all.length PLN (D i) vs[i] := fun i h => by rw [hD, hD, List.take_succ_eq_append_getElem h, List.foldl_append]; rfl
        have hDl : ∀ i, i ≤ vs.length → (D i).2.length ≤ s.order.length + i := by
          intro i
          induction i with
          | zero => intro _; rw [hD0, HSS.out.2.1]; exact Nat.le_refl _
          | succ i ih =>
            intro h
            have h1 := ih (by omega)
            rw [hDs i (by omega)]
            unfold wverd
            split
            · simp; omega
            · split
              · (try simp only); omega
              · split <;> (try simp only) <;> omega
        have HD := Lib.hid (⟨hD, hD0, hDs, hDl⟩ : _ ∧ _ ∧ _ ∧ _)
        clear hD hD0 hDs hDl
        go_wp2_with fail
        generalize wc = w8 at *
        go_loopw [107] (fun iv wr => ∃ i : Nat, iv = .int .i64 i ∧ i ≤ k ∧ Hid (∃ C' fpr ovr nr, WAt C' wr wb tb mb fpr ovr lv7 { sm with nodes := (D i).1, order := (D i).2 } first front nr ∧ TkAt C w bo C' wr ∧ nr ≤ n + i)) (fun iv _ => k - (intOf iv).toNat)
        case atStart => exact ⟨0, rfl, Nat.zero_le _, Lib.hid ⟨C7, fp, ov, n, by rw [HD.out.2.1]; exact HW8.out, HK8.out, Nat.le_refl _⟩⟩
        case round =>
          obtain ⟨i, rfl, hi', HR⟩ := hrel
          obtain ⟨Cr, fpr, ovr, nr, hWr, hKr, hnr⟩ := HR.out
          by_cases hin : i < k
          · have hil : i < vs.length := by rw [← HKL.out]; exact hin
            obtain ⟨b, o, rfl, hbl, p1, p2⟩ := (HV.out.1.mv HV.out.2.1 hKr.mv).cell i hil
            have hDs := HD.out.2.2.1 i hil
            have hwfv : Wf vs[i].1 := HV.out.2.2.1 _ (List.getElem_mem hil)
            have hDl := HD.out.2.2.2 i (by omega)
            -- the node of a verdict that is not the event's own stands
            have hstand : ¬ (e.kind ≠ 2 ∧ vs[i].1 = e.num) → ((D i).1 vs[i].1 ≠ none ∧ (vs[i].2 = 0 ∨ vs[i].2 = 2)) := fun hno => by
              have h1 := gfit_each vs none HV.out.2.2.2.1 vs[i] (List.getElem_mem hil)
              rcases h1 with h1 | ⟨_, h2, h3⟩
              · exact absurd h1 hno
              · refine ⟨?_, h3⟩
                have hpw := (gfit_inc vs none HV.out.2.2.2.1).2
                rw [HD.out.1, fold_keep _ _ _ _ _ _ (fun x hx e0 => ?_)]
                · rw [HSS.out.1]
                  intro h0
                  have h9 := (wwhole_some (wOf e) PLN s.nodes vs[i].1).1 h0
                  rw [h9] at h2; exact h2 rfl
                · obtain ⟨j, hj, rfl⟩ := List.getElem_of_mem hx
                  rw [List.length_take] at hj
                  rw [List.getElem_take] at e0
                  have := List.pairwise_iff_getElem.1 hpw j i (by omega) hil (by omega)
                  omega
            obtain ⟨v1, hv1⟩ : ∃ v1, vs[i].1 = v1 := ⟨_, rfl⟩
            obtain ⟨v2, hv2⟩ : ∃ v2, vs[i].2 = v2 := ⟨_, rfl⟩
            have hvp : vs[i] = (v1, v2) := by rw [← hv1, ← hv2]
            rw [hvp] at hDs
            rw [hv1] at p1 hwfv hstand
            rw [hv2] at p2 hstand
            obtain ⟨wv, hwv⟩ : ∃ wv, wr.alloc (.cells #[.int .i64 v1, .int .i64 v2] 49) = wv := ⟨_, rfl⟩
            have hba : Below wr.heap.size wr wv := by rw [← hwv]; exact (Below.refl _ _).alloc (Nat.le_refl _) _
            have HCL0 : Hid (Cr wr.heap.size = 0) := Lib.hid (hWr.top _ (Nat.le_refl _))
            have hWv := hWr.below hba
            have hKv := hKr.below hba
            have hvb : wv.heap[wr.heap.size]? = some (.cells #[.int .i64 v1, .int .i64 v2] 49 (0, 0)) := by rw [← hwv]; exact heap_alloc_new wr _
            have hsn : sm.all.length = PLN := by rw [HSS.out.2.2.1]; exact HSS.out.2.2.2.2.2.2
            obtain ⟨q0, q1, q2, q3, q4, q5, q6, q7⟩ := box_cells (HBC.out hKr)
            have l0 : w.heap.size < wr.heap.size := heap_lt (HBC.out hKr)
            have r0 := (hba.cell (p := ⟨w.heap.size, 0, none⟩) (heap_lt (HBC.out hKr))).trans q0
            have r1 := (hba.cell (p := ⟨w.heap.size, 1, none⟩) (heap_lt (HBC.out hKr))).trans q1
            have r6 := (hba.cell (p := ⟨w.heap.size, 6, none⟩) (heap_lt (HBC.out hKr))).trans q6
            have u0 : wv.cell? ⟨wr.heap.size, 0, none⟩ = some (.int .i64 v1) := by rw [cell_heap hvb]; rfl
            have u1 : wv.cell? ⟨wr.heap.size, 1, none⟩ = some (.int .i64 v2) := by rw [cell_heap hvb]; rfl
            obtain ⟨m0, m1, m2, m3, m4, m5⟩ := hWv.cells
            have HXV := Lib.hid (⟨hWv, hKv, hnr, hwfv, hDs, hDl, hsn⟩ : _ ∧ _ ∧ _ ∧ _ ∧ _ ∧ _ ∧ _)
            have HSTD := Lib.hid hstand
            have HWV := Lib.hid hwv
            have HUU := Lib.hid (⟨r0, r6, u0, u1, m0, m1⟩ : _ ∧ _ ∧ _ ∧ _ ∧ _ ∧ _)
            have i1 : (0 : Int) ≤ (i : Int) := by omega
            have i2 : (i : Int) < (k : Int) := by omega
            have ew : IntKind.i64.wrap ((i : Int) + 1) = (i : Int) + 1 := IntWalk.i64_in _ (by omega)
            clear hWr hKr hnr hDs hwfv hDl hstand hv1 hv2 hvp hba hWv hKv hvb hsn hwv hbl q2 q3 q4 q5 q7
            by_cases hown : e.kind ≠ 2 ∧ v1 = e.num
            · obtain ⟨hk2, rfl⟩ := hown
              have hb2 : (e.kind != 2) = true := by simp [hk2]
              have HDN : Hid (D (i + 1) = (wupd (D i).1 e.num (some ⟨v2, decide (e.kind = 1), e.fr, s.all.length, PLN⟩), (D i).2 ++ [e.num])) := Lib.hid (by
                rw [HXV.out.2.2.2.2.1]; exact wverd_own (e := wOf e) ⟨hk2, rfl⟩)
              obtain ⟨bw, hbw⟩ : ∃ bw : Bool, (e.kind == 1) = bw := ⟨_, rfl⟩
              have hbw' : decide (e.kind = 1) = bw := by rw [← hbw]; rfl
              rw [hbw'] at HDN
              have hpl := HXV.out.1.place
              simp only [HXV.out.2.2.2.2.2.2] at hpl
              have HPL7 : Hid (∀ W, Eqv wv W → Calls Tryz.prog 19 #[.pointer (some ⟨tb, 0, none⟩)] W fun r w' => r = .returned (.int .i64 (PLN : Nat)) ∧ ∃ d, w' = W.drewN d) := Lib.hid fun W hq => by
                have := tape_place (tb + 1) tb sm.all first front W (HXV.out.1.eqv hq).tp
                rw [HXV.out.2.2.2.2.2.2] at this
                exact this
              have hstore : ∀ d, ∃ w', (Instr.mapUpdate 54 (.map (some mb)) (.int .i64 e.num) (.pointer (some ⟨wv.heap.size, 0, none⟩))).run Tryz.prog ((wv.drewN d).alloc (.cells #[.int .i64 v2, .bool bw, .int .i64 e.fr, .int .i64 s.all.length, .int .i64 (PLN : Nat)] 70)) = .ok () w' ∧
                  PMap Tryz.prog 3 w' mb (nr + 1) (fun z => if z = e.num then some wv.heap.size else fpr z) ∧ ((wv.drewN d).alloc (.cells #[.int .i64 v2, .bool bw, .int .i64 e.fr, .int .i64 s.all.length, .int .i64 (PLN : Nat)] 70)).mapTurned w' mb := fun d => by
                have hpm : PMap Tryz.prog 3 ((wv.drewN d).alloc (.cells #[.int .i64 v2, .bool bw, .int .i64 e.fr, .int .i64 s.all.length, .int .i64 (PLN : Nat)] 70)) mb nr fpr := HXV.out.1.map.keepB (heap_alloc_old wv _ (HXV.out.1.lt0 (by rw [HXV.out.1.cm]; decide)))
                exact hpm.store undInt undMap (by have := HXV.out.2.2.1; unfold maxLen; omega) e.num (keyInt HXV.out.2.2.2.1) wv.heap.size
              obtain ⟨F, hF⟩ := Classical.axiomOfChoice hstore
              have hmu := fun d => (hF d).1
              have hNN : ∀ d, WAt (paint Cr wv (wv.alloc (.cells #[.int .i64 v2, .bool bw, .int .i64 e.fr, .int .i64 s.all.length, .int .i64 (PLN : Nat)] 70)) 6) (F d) wb tb mb (fun z => if z = e.num then some wv.heap.size else fpr z) ovr lv7 { sm with nodes := wupd (D i).1 e.num (some ⟨v2, bw, e.fr, s.all.length, PLN⟩), order := (D i).2 } first front (nr + 1) ∧
                  TkAt C w bo (paint Cr wv (wv.alloc (.cells #[.int .i64 v2, .bool bw, .int .i64 e.fr, .int .i64 s.all.length, .int .i64 (PLN : Nat)] 70)) 6) (F d) ∧ ∀ a, a < wv.heap.size → Cr a = 0 ∨ Cr a = 1 → (F d).heap[a]? = wv.heap[a]? := fun d => by
                obtain ⟨_, g2, g3⟩ := hF d
                obtain ⟨d1, d2, d3, d4⟩ := HXV.out.1.newNode (w1 := (wv.drewN d).alloc (.cells #[.int .i64 v2, .bool bw, .int .i64 e.fr, .int .i64 s.all.length, .int .i64 (PLN : Nat)] 70)) (x := ⟨v2, bw, e.fr, s.all.length, PLN⟩) ⟨_, rfl⟩ g2 g3
                have e0 : paint Cr wv ((wv.drewN d).alloc (.cells #[.int .i64 v2, .bool bw, .int .i64 e.fr, .int .i64 s.all.length, .int .i64 (PLN : Nat)] 70)) 6 = paint Cr wv (wv.alloc (.cells #[.int .i64 v2, .bool bw, .int .i64 e.fr, .int .i64 s.all.length, .int .i64 (PLN : Nat)] 70)) 6 := rfl
                rw [e0] at d1 d3
                refine ⟨d1, HXV.out.2.1.next d2 d3, fun a ha hca => ?_⟩
                have hg := g3.grown
                refine (hg.block a (by simp; omega) (fun e => ?_)).trans (heap_alloc_old wv _ ha)
                injection e with e
                have := HXV.out.1.cm
                rw [e] at hca; omega
              have hcl0 := HCL0.out
              obtain ⟨r0', r6', u0', u1', m0', m1'⟩ := HUU.out
              have HSW : Hid (∀ W : World, (∀ a, a < wv.heap.size → Cr a = 0 ∨ Cr a = 1 → W.heap[a]? = wv.heap[a]?) → (W.cell? ⟨w.heap.size, 0, none⟩ = some (.int .i64 e.kind) ∧ W.cell? ⟨w.heap.size, 6, none⟩ = some (.int .i64 e.fr) ∧ W.cell? ⟨wr.heap.size, 0, none⟩ = some (.int .i64 e.num) ∧ W.cell? ⟨wr.heap.size, 1, none⟩ = some (.int .i64 v2) ∧ W.cell? ⟨wb, 0, none⟩ = some (.pointer (some ⟨tb, 0, none⟩)) ∧ W.cell? ⟨wb, 1, none⟩ = some (.map (some mb)))) := Lib.hid fun W h => by
                have k1 := h w.heap.size (heap_lt HXV.out.2.1.bx) (.inl HXV.out.2.1.bc)
                have k2 := h wr.heap.size (World.block_lt_of_cell? wv _ u0') (.inl hcl0)
                have k3 := h wb (heap_lt HXV.out.1.blk) (.inr HXV.out.1.cw)
                exact ⟨(World.cell?_of_block (a := ⟨w.heap.size, 0, none⟩) k1).trans r0', (World.cell?_of_block (a := ⟨w.heap.size, 6, none⟩) k1).trans r6', (World.cell?_of_block (a := ⟨wr.heap.size, 0, none⟩) k2).trans u0', (World.cell?_of_block (a := ⟨wr.heap.size, 1, none⟩) k2).trans u1', (World.cell?_of_block (a := ⟨wb, 0, none⟩) k3).trans m0', (World.cell?_of_block (a := ⟨wb, 1, none⟩) k3).trans m1'⟩
              have HS1 : Hid (∀ W : World, Eqv wv W → (W.cell? ⟨w.heap.size, 0, none⟩ = some (.int .i64 e.kind) ∧ W.cell? ⟨w.heap.size, 6, none⟩ = some (.int .i64 e.fr) ∧ W.cell? ⟨wr.heap.size, 0, none⟩ = some (.int .i64 e.num) ∧ W.cell? ⟨wr.heap.size, 1, none⟩ = some (.int .i64 v2) ∧ W.cell? ⟨wb, 0, none⟩ = some (.pointer (some ⟨tb, 0, none⟩)) ∧ W.cell? ⟨wb, 1, none⟩ = some (.map (some mb)))) := Lib.hid fun W hq => HSW.out W (fun a _ _ => by rw [hq.heap])
              have HS2 : Hid (∀ (o : Obj) (W : World), Eqv (wv.alloc o) W → (W.cell? ⟨w.heap.size, 0, none⟩ = some (.int .i64 e.kind) ∧ W.cell? ⟨w.heap.size, 6, none⟩ = some (.int .i64 e.fr) ∧ W.cell? ⟨wr.heap.size, 0, none⟩ = some (.int .i64 e.num) ∧ W.cell? ⟨wr.heap.size, 1, none⟩ = some (.int .i64 v2) ∧ W.cell? ⟨wb, 0, none⟩ = some (.pointer (some ⟨tb, 0, none⟩)) ∧ W.cell? ⟨wb, 1, none⟩ = some (.map (some mb)))) := Lib.hid fun o W hq => HSW.out W (fun a ha _ => by rw [hq.heap]; exact heap_alloc_old wv o ha)
              have HS3 : Hid (∀ d, ((F d).cell? ⟨w.heap.size, 0, none⟩ = some (.int .i64 e.kind) ∧ (F d).cell? ⟨w.heap.size, 6, none⟩ = some (.int .i64 e.fr) ∧ (F d).cell? ⟨wr.heap.size, 0, none⟩ = some (.int .i64 e.num) ∧ (F d).cell? ⟨wr.heap.size, 1, none⟩ = some (.int .i64 v2) ∧ (F d).cell? ⟨wb, 0, none⟩ = some (.pointer (some ⟨tb, 0, none⟩)) ∧ (F d).cell? ⟨wb, 1, none⟩ = some (.map (some mb)))) := Lib.hid fun d => HSW.out (F d) (hNN d).2.2
              have HNN := Lib.hid hNN
              clear hF hNN hstore hbw' hpl hk2 hcl0 r0' r6' u0' u1' m0' m1'
              go_wp2_with fail
              simp only [HWV.out]
              clear q0 q1 q6 p1 p2
              go_region_held3 (fun w' => w'.cell? ⟨w.heap.size, 0, none⟩ = some (.int .i64 e.kind) ∧ w'.cell? ⟨w.heap.size, 6, none⟩ = some (.int .i64 e.fr) ∧ w'.cell? ⟨wr.heap.size, 0, none⟩ = some (.int .i64 e.num) ∧ w'.cell? ⟨wr.heap.size, 1, none⟩ = some (.int .i64 v2) ∧ w'.cell? ⟨wb, 0, none⟩ = some (.pointer (some ⟨tb, 0, none⟩)) ∧ w'.cell? ⟨wb, 1, none⟩ = some (.map (some mb))) (first | exact HS1.out _ ⟨_, rfl⟩ | exact HS2.out _ _ ⟨_, rfl⟩ | exact HS3.out _) (first | (go_at_call 19; (with_reducible refine (HPL7.out _ ?_).mono ?_); exact ⟨_, rfl⟩; rintro e9 w9 ⟨rfl, d9, rfl⟩))
              obtain ⟨hW9, hK9, _⟩ := HNN.out (1 + d9)
              obtain ⟨z0, z6, z2, z3, z4, z5⟩ := HS3.out (1 + d9)
              generalize F (1 + d9) = w10 at *
              generalize paint Cr wv (wv.alloc (.cells #[.int .i64 v2, .bool bw, .int .i64 e.fr, .int .i64 s.all.length, .int .i64 (PLN : Nat)] 70)) 6 = C10 at *
              obtain ⟨_, _, y2, _, _, _⟩ := hW9.cells
              obtain ⟨i0, hi, hz0, hz1, hz2⟩ := info_parts infoInt
              have HQO : Hid (∀ W o, W.heap = (w10.alloc o).heap → QRow W 3 1 ovr (D i).2.length ((D i).2.map (.int .i64))) := Lib.hid fun W o hq => hW9.ord.keep (fun k hk => by rw [hq]; exact heap_alloc_old _ _ (hW9.lt0 (by rw [hW9.co k hk]; decide)))
              have HFA : Hid (∀ o v' w', App (w10.alloc o) w' ovr v' → w'.heap[wb]? = w10.heap[wb]?) := Lib.hid fun o v' w' hap => (hW9.appC hap 4 hW9.co (by decide) (by decide)).1 wb (hW9.lt0 (by rw [hW9.cw]; decide)) (by rw [hW9.cw]; decide)
              have HPU : Hid (∀ o v' w', App (w10.alloc o) w' ovr v' → QRow w' 3 1 v' ((D i).2.length + 1) ((D i).2.map (.int .i64) ++ [.int .i64 e.num]) → ∃ C', WAt C' (w'.setCell ⟨wb, 2, none⟩ v') wb tb mb (fun z => if z = e.num then some wv.heap.size else fpr z) v' lv7 { sm with nodes := (D (i + 1)).1, order := (D (i + 1)).2 } first front (nr + 1) ∧ TkAt C w bo C' (w'.setCell ⟨wb, 2, none⟩ v')) := Lib.hid fun o v' w' hap hqr => by
                obtain ⟨g1, g2, g3⟩ := hW9.pushOrd (y := e.num) HXV.out.2.2.2.1 hap hqr
                rw [HDN.out]
                exact ⟨_, g1, hK9.next g2 g3⟩
              have HBK := Lib.hid hW9.blk
              have ma : ∀ o, (w10.alloc o).cell? ⟨wb, 2, none⟩ = some ovr := fun o => by rw [cell_heap ((heap_alloc_old w10 o (hW9.lt0 (by rw [hW9.cw]; decide))).trans hW9.blk)]; rfl
              have hdl : (D i).2.length + 1 ≤ 4294967296 := by have := HXV.out.2.2.2.2.2.1; omega
              have HDL := Lib.hid hdl
              clear hW9 hK9 hdl
              go_wp2_with fail
              go_region_law (first | (refine step_qapp rfl (.tmp 146) (.tmp 149) 28 rfl 3 i0 (.int .i64 0) 1 8 Tryz.underlying28 hi hz0 hz1 hz2 (by rfl) (by decide) ovr (D i).2.length ((D i).2.map (.int .i64)) (by rfl) ?_ _ _ [.int .i64 e.num] (by rfl) (heap_alloc_new w10 _) (by rfl) (by intro u hu; simp only [List.mem_cons, List.not_mem_nil, or_false] at hu; subst hu; rfl) HDL.out (by decide) ?_; exact HQO.out _ _ rfl; intro v7 w7 hq7 hap7; have hap8 : App (w10.alloc (.cells ([.int .i64 e.num] : List Value).toArray 3)) w7 ovr v7 := ⟨⟨hap7.grown.os, hap7.grown.tape, hap7.grown.output, hap7.grown.size, hap7.grown.block⟩, hap7.own⟩; have d0 := (HFA.out _ _ _ hap8).trans HBK.out; have d3 : w7.cell? ⟨wb, 2, none⟩ = some ovr := (by rw [cell_heap d0]; rfl); have f7 := frozen_heap (i := 2) d0; obtain ⟨a7, c7, rfl, _⟩ := hq7.slice))
              all_goals
                have HX := Lib.hid (HPU.out _ _ _ hap8 hq7)
                clear hq7 hap7 hap8 d0 d3 f7
                go_wp2_with fail
                go_roundw
                case rel =>
                  obtain ⟨C11, g1, g2⟩ := HX.out
                  exact ⟨i + 1, by go_num, by omega, Lib.hid ⟨C11, _, _, nr + 1, g1, g2, by have := HXV.out.2.2.1; omega⟩⟩
                case measure => simp [intOf]; omega
            · have hkn : (e.kind != 2) = false ∨ ((e.kind != 2) = true ∧ (v1 == e.num) = false) := by
                by_cases e0 : e.kind = 2
                · exact .inl (by simp [e0])
                · exact .inr ⟨by simp [e0], by simp; exact fun e2 => hown ⟨e0, e2⟩⟩
              obtain ⟨hst1, hst2⟩ := HSTD.out hown
              by_cases hv0 : v2 = 0
              · subst hv0
                have HDN : Hid (D (i + 1) = (wupd (D i).1 v1 none, (D i).2)) := Lib.hid (by
                  rw [HXV.out.2.2.2.2.1]; exact wverd_del (e := wOf e) hown)
                have HPM : Hid (∀ W, Eqv wv W → PMap Tryz.prog 3 W mb nr fpr) := Lib.hid fun W hq => (HXV.out.1.eqv hq).map
                clear hown hst1 hst2
                rcases hkn with hk2 | ⟨hk2, hk3⟩
                · go_wp2_with fail
                  simp only [HWV.out]
                  go_region_law (first | (refine step_delete_ptr rfl (.tmp 159) (.tmp 161) 54 3 rfl 68 undInt undMap mb nr fpr (by rfl) ?_ v1 (by rfl) (keyInt HXV.out.2.2.2.1) ?_; exact HPM.out _ ⟨_, rfl⟩; intro w8 hp8 ht8))
                  all_goals
                    have HX8 := Lib.hid ((HXV.out.1.eqv ⟨_, rfl⟩).del hp8 ht8)
                    clear hp8 ht8
                    go_wp2_with fail
                    go_roundw
                    case rel =>
                      refine ⟨i + 1, by go_num, by omega, Lib.hid ⟨Cr, _, ovr, nr, by rw [HDN.out]; exact HX8.out.1, HXV.out.2.1.same ⟨HX8.out.2.1.os, HX8.out.2.1.tape, HX8.out.2.1.output, HX8.out.2.1.size, HX8.out.2.1.block⟩, by have := HXV.out.2.2.1; omega⟩⟩
                    case measure => simp [intOf]; omega
                · go_wp2_with fail
                  simp only [HWV.out]
                  go_region_law (first | (refine step_delete_ptr rfl (.tmp 159) (.tmp 161) 54 3 rfl 68 undInt undMap mb nr fpr (by rfl) ?_ v1 (by rfl) (keyInt HXV.out.2.2.2.1) ?_; exact HPM.out _ ⟨_, rfl⟩; intro w8 hp8 ht8))
                  all_goals
                    have HX8 := Lib.hid ((HXV.out.1.eqv ⟨_, rfl⟩).del hp8 ht8)
                    clear hp8 ht8
                    go_wp2_with fail
                    go_roundw
                    case rel =>
                      refine ⟨i + 1, by go_num, by omega, Lib.hid ⟨Cr, _, ovr, nr, by rw [HDN.out]; exact HX8.out.1, HXV.out.2.1.same ⟨HX8.out.2.1.os, HX8.out.2.1.tape, HX8.out.2.1.output, HX8.out.2.1.size, HX8.out.2.1.block⟩, by have := HXV.out.2.2.1; omega⟩⟩
                    case measure => simp [intOf]; omega
              · have hv2 : v2 = 2 := by rcases hst2 with h | h; exact absurd h hv0; exact h
                subst hv2
                cases hx : (D i).1 v1 with
                | none => exact absurd hx hst1
                | some x =>
                  have HDN : Hid (D (i + 1) = (wupd (D i).1 v1 (some { x with truth := 2 }), (D i).2)) := Lib.hid (by
                    rw [HXV.out.2.2.2.2.1]; exact wverd_tru (e := wOf e) hown hx)
                  obtain ⟨nb, e1, e2, e3⟩ := HXV.out.1.nds v1 x hx
                  have hlk : ∀ d, (Instr.lookup 54 (.map (some mb)) (.int .i64 v1) false).run Tryz.prog (wv.drewN d) = .ok (.pointer (some ⟨nb, 0, none⟩)) (wv.drewN d) := fun d => by
                    have he := ((HXV.out.1.drewN d).map).look undInt undMap (zeroPN _) v1 (keyInt HXV.out.2.2.2.1)
                    rw [e1] at he; exact he
                  have hlk1 : (Instr.lookup 54 (.map (some mb)) (.int .i64 v1) false).run Tryz.prog wv.drew = .ok (.pointer (some ⟨nb, 0, none⟩)) wv.drew := hlk 1
                  have n0 : wv.cell? ⟨nb, 0, none⟩ = some (.int .i64 x.truth) := by rw [cell_heap e3]; rfl
                  have nf := frozen_heap (i := 0) e3
                  have HNX : Hid (WAt Cr (wv.setCell ⟨nb, 0, none⟩ (.int .i64 2)) wb tb mb fpr ovr lv7 { sm with nodes := (D (i + 1)).1, order := (D (i + 1)).2 } first front nr ∧ TkAt C w bo Cr (wv.setCell ⟨nb, 0, none⟩ (.int .i64 2))) := Lib.hid (by
                    obtain ⟨g1, g2⟩ := HXV.out.1.node (w' := wv.setCell ⟨nb, 0, none⟩ (.int .i64 2)) (x' := { x with truth := 2 }) e1 e2 (by simp [World.setCell]) (fun j hj => Below.heap_setCell _ _ _ _ hj) (setCell_heap e3 _) rfl rfl rfl
                    rw [HDN.out]
                    exact ⟨g1, HXV.out.2.1.same g2⟩)
                  clear hown hst1 hst2 hx e1 e2 e3 hv0
                  rcases hkn with hk2 | ⟨hk2, hk3⟩
                  · go_wp2_with fail
                    simp only [HWV.out]
                    go_region
                    all_goals
                      go_wp2_with fail
                      go_roundw
                      case rel => exact ⟨i + 1, by go_num, by omega, Lib.hid ⟨Cr, fpr, ovr, nr, HNX.out.1.eqv ⟨_, rfl⟩, HNX.out.2.below (Eqv.below ⟨_, rfl⟩), by have := HXV.out.2.2.1; omega⟩⟩
                      case measure => simp [intOf]; omega
                  · go_wp2_with fail
                    simp only [HWV.out]
                    go_region
                    all_goals
                      go_wp2_with fail
                      go_roundw
                      case rel => exact ⟨i + 1, by go_num, by omega, Lib.hid ⟨Cr, fpr, ovr, nr, HNX.out.1.eqv ⟨_, rfl⟩, HNX.out.2.below (Eqv.below ⟨_, rfl⟩), by have := HXV.out.2.2.1; omega⟩⟩
                      case measure => simp [intOf]; omega
          · have hik : i = k := by omega
            subst hik
            have htk : vs.take i = vs := List.take_of_length_le (by rw [← HKL.out]; exact Nat.le_refl _)
            have hDk : D i = vs.foldl (wverd (wOf e) s.all.length PLN) (wwhole (wOf e) PLN s.nodes, s.order) := by rw [HD.out.1, htk, HSS.out.1, HSS.out.2.1]
            have hol : (D i).2.length ≤ 1048576 := by have := HD.out.2.2.2 i (by rw [← HKL.out]; exact Nat.le_refl _); omega
            have hcu : ∀ p : Int × WN, p ∈ live (D i).1 (D i).2 → front ≤ p.2.bgn ∧ p.2.bgn ≤ p.2.fin ∧ p.2.fin ≤ ({ sm with nodes := (D i).1, order := (D i).2 } : WSt).all.length := by
              have h1 := HV.out.2.2.2.2.1
              simp only [HSS.out.2.2.2.2.2.2] at h1
              rw [hDk]
              show ∀ p : Int × WN, p ∈ _ → _ ∧ _ ∧ p.2.fin ≤ sm.all.length
              rw [HSS.out.2.2.1, HSS.out.2.2.2.2.2.2]
              exact h1
            have hte := tell_any hWr hol hcu
            have hT2 : tellW (fun x y => (({ sm with nodes := (D i).1, order := (D i).2 } : WSt).all.drop x).take (y - x)) (D i).1 (D i).2 = T := by
              rw [← HTT.out, hDk]
              simp only [HSS.out.2.2.2.2.2.2, HSS.out.2.2.1]
            rw [show ({ sm with nodes := (D i).1, order := (D i).2 } : WSt).nodes = (D i).1 from rfl, show ({ sm with nodes := (D i).1, order := (D i).2 } : WSt).order = (D i).2 from rfl, hT2] at hte
            have HTE := Lib.hid hte
            have HKR := Lib.hid (⟨hKr, hnr⟩ : _ ∧ _)
            clear hWr hKr hnr htk hDk hol hcu hte hT2
            go_wp2_with fail
            (with_reducible refine HTE.out.mono ?_)
            rintro r w9 hrt
            obtain ⟨C9, fp9, ov9, first9, ia, ic, rfl, hW9, hI9, hM9, hP9⟩ := hrt
            have HX9 := Lib.hid (⟨hW9, hI9, hM9, hP9⟩ : _ ∧ _ ∧ _ ∧ _)
            clear hW9 hI9 hM9 hP9
            go_wp2_with fail
            go_ret2
            obtain ⟨hW9, hI9, hM9, hP9⟩ := HX9.out
            refine ⟨C9, fp9, ov9, lv7, first9, ia, ic, nr, rfl, ?_, ⟨hI9.own.mono HKR.out.1.mv.size, hI9.col⟩, HKR.out.1.mv.andThen HKR.out.1.pt hM9, HKR.out.1.pt.trans HKR.out.1.mv.size hP9, HKR.out.2⟩
            rw [HS9.out.1, HS9.out.2]
            have e3 : ({ sm with nodes := (D i).1, order := (D i).2 } : WSt).all.length = (s.all ++ evOut e).length := by show sm.all.length = _; rw [HSS.out.2.2.1]
            have e4 : ({ ({ sm with nodes := (D i).1, order := (D i).2 } : WSt) with nodes := T.2.1, order := T.2.2 } : WSt) = ⟨T.2.1, T.2.2, (wmid s (wOf e)).opn, if e.kind = 2 then s.next else s.next + 1, e.tt, s.all ++ evOut e⟩ := by
              rw [← HSS.out.2.2.1, ← HSS.out.2.2.2.1, ← HSS.out.2.2.2.2.1, ← HSS.out.2.2.2.2.2.1]
            rw [e3] at hW9
            have e5 := hW9
            rw [e4] at e5
            exact e5
end Go.Proofs.YtmnloeolacmemaaGreat
