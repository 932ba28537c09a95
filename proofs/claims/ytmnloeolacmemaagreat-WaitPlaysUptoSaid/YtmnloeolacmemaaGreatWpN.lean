/-
  wait.fit: do the verdicts fit the event?
-/
import Derived.Test.YtmnloeolacmemaaGreatWpK
import Derived.Deep.RegionLaw
namespace Go.Proofs.YtmnloeolacmemaaGreat
open Go.RowKit

/-- verdicts in memory -/
structure VsAt (w : World) (a : Option Addr) (n : Nat) (vs : List (Int × Int)) : Prop where
  len : n = vs.length
  cell : ∀ i, (h : i < vs.length) → ∃ b o, a = some ⟨b, o, none⟩ ∧ b < w.heap.size ∧ w.cell? ⟨b, o + i * 2, none⟩ = some (.int .i64 vs[i].1) ∧ w.cell? ⟨b, o + i * 2 + 1, none⟩ = some (.int .i64 vs[i].2)
theorem VsAt.below {w w' : World} {a : Option Addr} {n : Nat} {vs : List (Int × Int)} (h : VsAt w a n vs) (hb : Below w.heap.size w w') : VsAt w' a n vs :=
  ⟨h.len, fun i hi => by
    obtain ⟨b, o, h1, h2, h3, h4⟩ := h.cell i hi
    exact ⟨b, o, h1, Nat.lt_of_lt_of_le h2 hb.size, (hb.cell (p := ⟨b, o + i * 2, none⟩) h2).trans h3, (hb.cell (p := ⟨b, o + i * 2 + 1, none⟩) h2).trans h4⟩⟩
def prevN (vs : List (Int × Int)) (i : Nat) : Option Int := if i = 0 then none else (vs[i - 1]?).map (·.1)
theorem gfit_step (tr : Int → Option Int) (e : WEv) (vs : List (Int × Int)) (i : Nat) (hi : i < vs.length) : gfit tr e (prevN vs i) (vs.drop i) =
    ((match prevN vs i with | none => true | some q => decide (q < vs[i].1)) && (if e.kind ≠ 2 ∧ vs[i].1 = e.num then decide (vs[i].2 = 1 ∨ vs[i].2 = 2) else match tr vs[i].1 with | none => false | some t => decide (t = 1 ∧ (vs[i].2 = 0 ∨ vs[i].2 = 2))) && gfit tr e (prevN vs (i + 1)) (vs.drop (i + 1))) := by
  rw [List.drop_eq_getElem_cons hi]
  have h1 : prevN vs (i + 1) = some vs[i].1 := by unfold prevN; rw [if_neg (by omega), Nat.add_sub_cancel, List.getElem?_eq_getElem hi]; rfl
  rw [h1]; rfl
theorem gfit_done (tr : Int → Option Int) (e : WEv) (vs : List (Int × Int)) (p : Option Int) : gfit tr e p (vs.drop vs.length) = true := by rw [List.drop_length]; rfl

set_option maxRecDepth 1000000 in
set_option maxHeartbeats 40000000 in
theorem fit_any {C : Nat → Nat} {w : World} {wb tb mb : Nat} {fp : Int → Option Nat} {ov lv : Value} {s : WSt} {first front n : Nat} (h : WAt C w wb tb mb fp ov lv s first front n)
    (kind num dep fr tt : Int) (name text : List UInt8) (A : Option Addr) (m c : Nat) (pc : List UInt8) (a : Option Addr) (k cv : Nat) (vs : List (Int × Int)) (hV : VsAt w a k vs) (hk : k ≤ 1048576) (hwf : ∀ v ∈ vs, Wf v.1) :
    Calls Tryz.prog 18 #[.pointer (some ⟨wb, 0, none⟩), .agg (evC kind num dep name A m c text fr tt), .slice a k cv] w fun r w' => r = .returned (.bool (gfit (fun j => (s.nodes j).map (·.truth)) ⟨kind, num, fr, tt, pc⟩ none vs)) ∧ Below w.heap.size w w' := by
  have HH := Lib.hid h
  have HV := Lib.hid hV
  have HK : Hid (k = vs.length) := Lib.hid hV.len
  have HWF := Lib.hid hwf
  have hb0 := (Below.refl w.heap.size w).alloc (Nat.le_refl _) (.cells (evC kind num dep name A m c text fr tt) 36)
  have h0 : (w.alloc (.cells (evC kind num dep name A m c text fr tt) 36)).heap[w.heap.size]? = some (.cells (evC kind num dep name A m c text fr tt) 36 (0, 0)) := heap_alloc_new w _
  have h0s : (w.alloc (.cells (evC kind num dep name A m c text fr tt) 36)).heap.size = w.heap.size + 1 := by simp
  have HB0 := Lib.hid hb0
  have H0 := Lib.hid h0
  clear h hV hwf hb0 h0
  obtain ⟨G, hG⟩ : ∃ G, gfit (fun j => (s.nodes j).map (·.truth)) ⟨kind, num, fr, tt, pc⟩ none vs = G := ⟨_, rfl⟩
  rw [hG]
  have HGG := Lib.hid hG
  clear hG
  unfold evC at *
  go_enter Tryz.func18, Tryz.ntmps18
  go_wp2_with fail
  generalize w.alloc (.cells #[.int .i64 kind, .int .i64 num, .int .i64 dep, .string (strL name), .slice A m c, .string (strL text), .int .i64 fr, .int .i64 tt] 36) = W0 at *
  go_loopw [12] (fun iv wr => ∃ i : Nat, iv = .int .i64 i ∧ i ≤ k ∧ Hid (Below W0.heap.size W0 wr ∧ gfit (fun j => (s.nodes j).map (·.truth)) ⟨kind, num, fr, tt, pc⟩ (prevN vs i) (vs.drop i) = G)) (fun iv _ => k - (intOf iv).toNat)
  case atStart => exact ⟨0, rfl, Nat.zero_le _, Lib.hid ⟨Below.refl _ _, by rw [← HGG.out]; rfl⟩⟩
  case round =>
    obtain ⟨i, rfl, hi', HR⟩ := hrel
    have hbw : Below w.heap.size w wr := HB0.out.trans (HR.out.1.mono HB0.out.size)
    by_cases hin : i < k
    · have hil : i < vs.length := by rw [← HK.out]; exact hin
      obtain ⟨b, o, rfl, hbl, p1, q1⟩ := HV.out.cell i hil
      have hst := gfit_step (fun j => (s.nodes j).map (·.truth)) ⟨kind, num, fr, tt, pc⟩ vs i hil
      rw [HR.out.2] at hst
      simp only at hst
      have hwfv : Wf vs[i].1 := HWF.out _ (List.getElem_mem hil)
      have hW := HH.out.below hbw
      obtain ⟨_, m1, _, _, _, _⟩ := hW.cells
      have HPM : Hid (∀ d o, PMap Tryz.prog 3 ((wr.alloc o).drewN d) mb n fp) := Lib.hid fun d o =>
        HH.out.map.keepB ((Below.drewN (hbw.alloc hbw.size o) d).block mb (HH.out.lt0 (by rw [HH.out.cm]; decide)))
      have HKY := Lib.hid (keyInt hwfv)
      have HND : Hid (∀ x, s.nodes vs[i].1 = some x → ∃ nb, fp vs[i].1 = some nb ∧ nb < w.heap.size ∧ nb < wr.heap.size ∧ wr.cell? ⟨nb, 0, none⟩ = some (.int .i64 x.truth)) := Lib.hid fun x hx => by
        obtain ⟨nb, e1, e2, e3⟩ := hW.nds _ x hx
        have e4 := HH.out.lt0 (k := nb) (by rw [e2]; decide)
        exact ⟨nb, e1, e4, Nat.lt_of_lt_of_le e4 hbw.size, by rw [cell_heap e3]; rfl⟩
      have HNO : Hid (s.nodes vs[i].1 = none → fp vs[i].1 = none) := Lib.hid (HH.out.non _)
      have hprev : ∀ j, i = j + 1 → ∃ y, prevN vs i = some y ∧ w.cell? ⟨b, o + j * 2, none⟩ = some (.int .i64 y) := by
        intro j hj
        obtain ⟨b', o', e, _, p, _⟩ := HV.out.cell j (by omega)
        injection e with e; injection e with e1 e2; subst e1; subst e2
        exact ⟨_, by unfold prevN; rw [if_neg (by omega), show i - 1 = j by omega, List.getElem?_eq_getElem (by omega)]; rfl, p⟩
      have hpz : i = 0 → prevN vs i = none := fun e => by unfold prevN; rw [if_pos e]
      have HNX : Hid (i + 1 ≤ vs.length ∧ gfit (fun j => (s.nodes j).map (·.truth)) ⟨kind, num, fr, tt, pc⟩ (prevN vs (i + 1)) (vs.drop (i + 1)) = gfit (fun j => (s.nodes j).map (·.truth)) ⟨kind, num, fr, tt, pc⟩ (prevN vs (i + 1)) (vs.drop (i + 1))) := Lib.hid ⟨by omega, rfl⟩
      obtain ⟨GN, hGN⟩ : ∃ GN, gfit (fun j => (s.nodes j).map (·.truth)) ⟨kind, num, fr, tt, pc⟩ (prevN vs (i + 1)) (vs.drop (i + 1)) = GN := ⟨_, rfl⟩
      rw [hGN] at hst
      have HGN := Lib.hid hGN
      clear hGN HNX
      have p2 := (hbw.cell (p := ⟨b, o + i * 2, none⟩) hbl).trans p1
      have q2 := (hbw.cell (p := ⟨b, o + i * 2 + 1, none⟩) hbl).trans q1
      have f0 : wr.cell? ⟨w.heap.size, 0, none⟩ = some (.int .i64 kind) := by rw [HR.out.1.cell (p := ⟨w.heap.size, 0, none⟩) (by rw [h0s]; exact Nat.lt_succ_self _), cell_heap H0.out]; rfl
      have f1 : wr.cell? ⟨w.heap.size, 1, none⟩ = some (.int .i64 num) := by rw [HR.out.1.cell (p := ⟨w.heap.size, 1, none⟩) (by rw [h0s]; exact Nat.lt_succ_self _), cell_heap H0.out]; rfl
      have l0 : w.heap.size < wr.heap.size := by have := HR.out.1.size; omega
      have lb : b < wr.heap.size := Nat.lt_of_lt_of_le hbl hbw.size
      have lwb : wb < wr.heap.size := heap_lt hW.blk
      have HN1 : Hid (∀ o d, Below W0.heap.size W0 ((wr.alloc o).drewN d)) := Lib.hid fun o d => Below.drewN (HR.out.1.alloc HR.out.1.size o) d
      have HF1 : Hid (∀ o d, Below w.heap.size w ((wr.alloc o).drewN d)) := Lib.hid fun o d => Below.drewN (hbw.alloc hbw.size o) d
      have i1 : (0 : Int) ≤ (i : Int) := by omega
      have i2 : (i : Int) < (k : Int) := by omega
      have ew : IntKind.i64.wrap ((i : Int) + 1) = (i : Int) + 1 := IntWalk.i64_in _ (by omega)
      have hpv : ∀ j, i = j + 1 → ∃ y, prevN vs i = some y ∧ wr.cell? ⟨b, o + j * 2, none⟩ = some (.int .i64 y) := fun j hj => by
        obtain ⟨y, y1, y2⟩ := hprev j hj
        exact ⟨y, y1, (hbw.cell (p := ⟨b, o + j * 2, none⟩) hbl).trans y2⟩
      clear p1 q1 hW hprev hwfv hbw hbl
      generalize vs[i].1 = v1 at *
      generalize vs[i].2 = v2 at *
      by_cases hi0 : i = 0
      · rw [hpz hi0] at hst
        simp only [Bool.true_and] at hst
        have it1 : decide (0 < i) = false := by simp; omega
        have it2 : decide ((0 : Int) < (i : Int)) = false := by simp; omega
        clear hpv hpz hi0
        by_cases hown : kind ≠ 2 ∧ v1 = num
        · obtain ⟨hk2, rfl⟩ := hown
          rw [if_pos ⟨hk2, rfl⟩] at hst
          have ht : (kind == 2) = false := by simp [hk2]
          have ht3 : (kind != 2) = true := by simp [hk2]
          have ht4 : ¬ kind = 2 := hk2
          clear HPM HKY HND HNO
          by_cases a1 : v2 = 1
          · subst a1
            have hst2 : G = GN := by simpa using hst
            subst hst2
            clear hst hk2
            go_wp2_with fail
            go_quiet (fail)
            go_wp2_with fail
            go_roundw
            case rel => exact ⟨i + 1, by go_num, by omega, Lib.hid ⟨by first | exact HN1.out _ _ | exact Below.drewN (HN1.out _ _) _, HGN.out⟩⟩
            case measure => simp [intOf]; omega
          by_cases a2 : v2 = 2
          · subst a2
            have hst2 : G = GN := by simpa using hst
            subst hst2
            clear hst hk2
            go_wp2_with fail
            go_quiet (fail)
            go_wp2_with fail
            go_roundw
            case rel => exact ⟨i + 1, by go_num, by omega, Lib.hid ⟨by first | exact HN1.out _ _ | exact Below.drewN (HN1.out _ _) _, HGN.out⟩⟩
            case measure => simp [intOf]; omega
          have hst2 : G = false := by simpa [a1, a2] using hst
          subst hst2
          have b1 : ¬ v2 = 1 := a1
          have b3 : (v2 != 1) = true := by simp [a1]
          have b2 : ¬ v2 = 2 := a2
          have b4 : (v2 != 2) = true := by simp [a2]
          clear hst hk2 a1 a2
          go_wp2_with fail
          go_quiet (fail)
          go_wp2_with fail
          go_ret
          exact ⟨rfl, by first | exact HF1.out _ _ | exact Below.drewN (HF1.out _ _) _⟩
        rw [if_neg hown] at hst
        have hkn : kind = 2 ∨ ((kind != 2) = true ∧ (v1 == num) = false) := by
          by_cases e : kind = 2
          · exact .inl e
          · exact .inr ⟨by simp [e], by simp; exact fun e2 => hown ⟨e, e2⟩⟩
        clear hown
        cases hx : s.nodes v1 with
        | none =>
          rw [hx] at hst
          have hst2 : G = false := by simpa using hst
          subst hst2
          have hlk : ∀ d o, (Instr.lookup 54 (.map (some mb)) (.int .i64 v1) false).run Tryz.prog ((wr.alloc o).drewN d) = .ok (.pointer none) ((wr.alloc o).drewN d) := fun d o => by
            have e := (HPM.out d o).look undInt undMap (zeroPN _) v1 HKY.out
            rw [HNO.out hx] at e; exact e
          clear hst hx HND HNO HPM HKY
          rcases hkn with rfl | ⟨ht, ht2⟩
          · skip
            go_wp2_with fail
            go_quiet (fail)
            go_wp2_with fail
            go_quiet (fail)
            go_wp2_with fail
            go_ret
            exact ⟨rfl, by first | exact HF1.out _ _ | exact Below.drewN (HF1.out _ _) _⟩
          · skip
            go_wp2_with fail
            go_quiet (fail)
            go_wp2_with fail
            go_quiet (fail)
            go_wp2_with fail
            go_ret
            exact ⟨rfl, by first | exact HF1.out _ _ | exact Below.drewN (HF1.out _ _) _⟩
        | some x =>
          rw [hx] at hst
          simp only [Option.map_some] at hst
          obtain ⟨nb, e1, _, lnb, n0⟩ := HND.out x hx
          have hlk : ∀ d o, (Instr.lookup 54 (.map (some mb)) (.int .i64 v1) false).run Tryz.prog ((wr.alloc o).drewN d) = .ok (.pointer (some ⟨nb, 0, none⟩)) ((wr.alloc o).drewN d) := fun d o => by
            have e := (HPM.out d o).look undInt undMap (zeroPN _) v1 HKY.out
            rw [e1] at e; exact e
          generalize x.truth = xt at *
          clear hx HND HNO e1 HPM HKY
          by_cases hxt : xt = 1
          · subst hxt
            by_cases a2 : v2 = 2
            · subst a2
              have hst2 : G = GN := by simpa using hst
              subst hst2
              clear hst
              rcases hkn with rfl | ⟨ht, ht2⟩
              · skip
                go_wp2_with fail
                go_quiet (fail)
                go_wp2_with fail
                go_quiet (fail)
                go_wp2_with fail
                go_roundw
                case rel => exact ⟨i + 1, by go_num, by omega, Lib.hid ⟨by first | exact HN1.out _ _ | exact Below.drewN (HN1.out _ _) _, HGN.out⟩⟩
                case measure => simp [intOf]; omega
              · skip
                go_wp2_with fail
                go_quiet (fail)
                go_wp2_with fail
                go_quiet (fail)
                go_wp2_with fail
                go_roundw
                case rel => exact ⟨i + 1, by go_num, by omega, Lib.hid ⟨by first | exact HN1.out _ _ | exact Below.drewN (HN1.out _ _) _, HGN.out⟩⟩
                case measure => simp [intOf]; omega
            by_cases a0 : v2 = 0
            · subst a0
              have hst2 : G = GN := by simpa using hst
              subst hst2
              clear hst
              rcases hkn with rfl | ⟨ht, ht2⟩
              · skip
                go_wp2_with fail
                go_quiet (fail)
                go_wp2_with fail
                go_quiet (fail)
                go_wp2_with fail
                go_roundw
                case rel => exact ⟨i + 1, by go_num, by omega, Lib.hid ⟨by first | exact HN1.out _ _ | exact Below.drewN (HN1.out _ _) _, HGN.out⟩⟩
                case measure => simp [intOf]; omega
              · skip
                go_wp2_with fail
                go_quiet (fail)
                go_wp2_with fail
                go_quiet (fail)
                go_wp2_with fail
                go_roundw
                case rel => exact ⟨i + 1, by go_num, by omega, Lib.hid ⟨by first | exact HN1.out _ _ | exact Below.drewN (HN1.out _ _) _, HGN.out⟩⟩
                case measure => simp [intOf]; omega
            have hst2 : G = false := by simpa [a2, a0] using hst
            subst hst2
            have b1 : ¬ v2 = 2 := a2
            have b3 : (v2 != 2) = true := by simp [a2]
            have b2 : ¬ v2 = 0 := a0
            have b4 : (v2 != 0) = true := by simp [a0]
            clear hst a2 a0
            rcases hkn with rfl | ⟨ht, ht2⟩
            · skip
              go_wp2_with fail
              go_quiet (fail)
              go_wp2_with fail
              go_quiet (fail)
              go_wp2_with fail
              go_ret
              exact ⟨rfl, by first | exact HF1.out _ _ | exact Below.drewN (HF1.out _ _) _⟩
            · skip
              go_wp2_with fail
              go_quiet (fail)
              go_wp2_with fail
              go_quiet (fail)
              go_wp2_with fail
              go_ret
              exact ⟨rfl, by first | exact HF1.out _ _ | exact Below.drewN (HF1.out _ _) _⟩
          · have hst2 : G = false := by simpa [hxt] using hst
            subst hst2
            have b1 : ¬ xt = 1 := hxt
            have b3 : (xt != 1) = true := by simp [hxt]
            clear hst hxt
            rcases hkn with rfl | ⟨ht, ht2⟩
            · skip
              go_wp2_with fail
              go_quiet (fail)
              go_wp2_with fail
              go_quiet (fail)
              go_wp2_with fail
              go_ret
              exact ⟨rfl, by first | exact HF1.out _ _ | exact Below.drewN (HF1.out _ _) _⟩
            · skip
              go_wp2_with fail
              go_quiet (fail)
              go_wp2_with fail
              go_quiet (fail)
              go_wp2_with fail
              go_ret
              exact ⟨rfl, by first | exact HF1.out _ _ | exact Below.drewN (HF1.out _ _) _⟩
      · obtain ⟨j, hj⟩ : ∃ j, i = j + 1 := ⟨i - 1, by omega⟩
        obtain ⟨y, y1, y2⟩ := hpv j hj
        rw [y1] at hst
        simp only at hst
        clear hpv hpz hi0 y1
        have ew1 : IntKind.i64.wrap ((i : Int) - 1) = (j : Int) := by rw [IntWalk.i64_in _ (by omega)]; omega
        have i3 : (0 : Int) < (i : Int) := by omega
        have i3' : 0 < i := by omega
        have i4 : (j : Int) < (k : Int) := by omega
        have i5 : (0 : Int) ≤ (j : Int) := by omega
        clear hj
        by_cases hyv : y < v1
        · rw [decide_eq_true hyv, Bool.true_and] at hst
          have hyv' : ¬ v1 ≤ y := by omega
          have hyd : decide (v1 ≤ y) = false := by simp; omega
          by_cases hown : kind ≠ 2 ∧ v1 = num
          · obtain ⟨hk2, rfl⟩ := hown
            rw [if_pos ⟨hk2, rfl⟩] at hst
            have ht : (kind == 2) = false := by simp [hk2]
            have ht3 : (kind != 2) = true := by simp [hk2]
            have ht4 : ¬ kind = 2 := hk2
            clear HPM HKY HND HNO
            by_cases a1 : v2 = 1
            · subst a1
              have hst2 : G = GN := by simpa using hst
              subst hst2
              clear hst hk2
              go_wp2_with fail
              go_quiet (fail)
              go_wp2_with fail
              go_roundw
              case rel => exact ⟨i + 1, by go_num, by omega, Lib.hid ⟨by first | exact HN1.out _ _ | exact Below.drewN (HN1.out _ _) _, HGN.out⟩⟩
              case measure => simp [intOf]; omega
            by_cases a2 : v2 = 2
            · subst a2
              have hst2 : G = GN := by simpa using hst
              subst hst2
              clear hst hk2
              go_wp2_with fail
              go_quiet (fail)
              go_wp2_with fail
              go_roundw
              case rel => exact ⟨i + 1, by go_num, by omega, Lib.hid ⟨by first | exact HN1.out _ _ | exact Below.drewN (HN1.out _ _) _, HGN.out⟩⟩
              case measure => simp [intOf]; omega
            have hst2 : G = false := by simpa [a1, a2] using hst
            subst hst2
            have b1 : ¬ v2 = 1 := a1
            have b3 : (v2 != 1) = true := by simp [a1]
            have b2 : ¬ v2 = 2 := a2
            have b4 : (v2 != 2) = true := by simp [a2]
            clear hst hk2 a1 a2
            go_wp2_with fail
            go_quiet (fail)
            go_wp2_with fail
            go_ret
            exact ⟨rfl, by first | exact HF1.out _ _ | exact Below.drewN (HF1.out _ _) _⟩
          rw [if_neg hown] at hst
          have hkn : kind = 2 ∨ ((kind != 2) = true ∧ (v1 == num) = false) := by
            by_cases e : kind = 2
            · exact .inl e
            · exact .inr ⟨by simp [e], by simp; exact fun e2 => hown ⟨e, e2⟩⟩
          clear hown
          cases hx : s.nodes v1 with
          | none =>
            rw [hx] at hst
            have hst2 : G = false := by simpa using hst
            subst hst2
            have hlk : ∀ d o, (Instr.lookup 54 (.map (some mb)) (.int .i64 v1) false).run Tryz.prog ((wr.alloc o).drewN d) = .ok (.pointer none) ((wr.alloc o).drewN d) := fun d o => by
              have e := (HPM.out d o).look undInt undMap (zeroPN _) v1 HKY.out
              rw [HNO.out hx] at e; exact e
            clear hst hx HND HNO HPM HKY
            rcases hkn with rfl | ⟨ht, ht2⟩
            · skip
              go_wp2_with fail
              go_quiet (fail)
              go_wp2_with fail
              go_quiet (fail)
              go_wp2_with fail
              go_ret
              exact ⟨rfl, by first | exact HF1.out _ _ | exact Below.drewN (HF1.out _ _) _⟩
            · skip
              go_wp2_with fail
              go_quiet (fail)
              go_wp2_with fail
              go_quiet (fail)
              go_wp2_with fail
              go_ret
              exact ⟨rfl, by first | exact HF1.out _ _ | exact Below.drewN (HF1.out _ _) _⟩
          | some x =>
            rw [hx] at hst
            simp only [Option.map_some] at hst
            obtain ⟨nb, e1, _, lnb, n0⟩ := HND.out x hx
            have hlk : ∀ d o, (Instr.lookup 54 (.map (some mb)) (.int .i64 v1) false).run Tryz.prog ((wr.alloc o).drewN d) = .ok (.pointer (some ⟨nb, 0, none⟩)) ((wr.alloc o).drewN d) := fun d o => by
              have e := (HPM.out d o).look undInt undMap (zeroPN _) v1 HKY.out
              rw [e1] at e; exact e
            generalize x.truth = xt at *
            clear hx HND HNO e1 HPM HKY
            by_cases hxt : xt = 1
            · subst hxt
              by_cases a2 : v2 = 2
              · subst a2
                have hst2 : G = GN := by simpa using hst
                subst hst2
                clear hst
                rcases hkn with rfl | ⟨ht, ht2⟩
                · skip
                  go_wp2_with fail
                  go_quiet (fail)
                  go_wp2_with fail
                  go_quiet (fail)
                  go_wp2_with fail
                  go_roundw
                  case rel => exact ⟨i + 1, by go_num, by omega, Lib.hid ⟨by first | exact HN1.out _ _ | exact Below.drewN (HN1.out _ _) _, HGN.out⟩⟩
                  case measure => simp [intOf]; omega
                · skip
                  go_wp2_with fail
                  go_quiet (fail)
                  go_wp2_with fail
                  go_quiet (fail)
                  go_wp2_with fail
                  go_roundw
                  case rel => exact ⟨i + 1, by go_num, by omega, Lib.hid ⟨by first | exact HN1.out _ _ | exact Below.drewN (HN1.out _ _) _, HGN.out⟩⟩
                  case measure => simp [intOf]; omega
              by_cases a0 : v2 = 0
              · subst a0
                have hst2 : G = GN := by simpa using hst
                subst hst2
                clear hst
                rcases hkn with rfl | ⟨ht, ht2⟩
                · skip
                  go_wp2_with fail
                  go_quiet (fail)
                  go_wp2_with fail
                  go_quiet (fail)
                  go_wp2_with fail
                  go_roundw
                  case rel => exact ⟨i + 1, by go_num, by omega, Lib.hid ⟨by first | exact HN1.out _ _ | exact Below.drewN (HN1.out _ _) _, HGN.out⟩⟩
                  case measure => simp [intOf]; omega
                · skip
                  go_wp2_with fail
                  go_quiet (fail)
                  go_wp2_with fail
                  go_quiet (fail)
                  go_wp2_with fail
                  go_roundw
                  case rel => exact ⟨i + 1, by go_num, by omega, Lib.hid ⟨by first | exact HN1.out _ _ | exact Below.drewN (HN1.out _ _) _, HGN.out⟩⟩
                  case measure => simp [intOf]; omega
              have hst2 : G = false := by simpa [a2, a0] using hst
              subst hst2
              have b1 : ¬ v2 = 2 := a2
              have b3 : (v2 != 2) = true := by simp [a2]
              have b2 : ¬ v2 = 0 := a0
              have b4 : (v2 != 0) = true := by simp [a0]
              clear hst a2 a0
              rcases hkn with rfl | ⟨ht, ht2⟩
              · skip
                go_wp2_with fail
                go_quiet (fail)
                go_wp2_with fail
                go_quiet (fail)
                go_wp2_with fail
                go_ret
                exact ⟨rfl, by first | exact HF1.out _ _ | exact Below.drewN (HF1.out _ _) _⟩
              · skip
                go_wp2_with fail
                go_quiet (fail)
                go_wp2_with fail
                go_quiet (fail)
                go_wp2_with fail
                go_ret
                exact ⟨rfl, by first | exact HF1.out _ _ | exact Below.drewN (HF1.out _ _) _⟩
            · have hst2 : G = false := by simpa [hxt] using hst
              subst hst2
              have b1 : ¬ xt = 1 := hxt
              have b3 : (xt != 1) = true := by simp [hxt]
              clear hst hxt
              rcases hkn with rfl | ⟨ht, ht2⟩
              · skip
                go_wp2_with fail
                go_quiet (fail)
                go_wp2_with fail
                go_quiet (fail)
                go_wp2_with fail
                go_ret
                exact ⟨rfl, by first | exact HF1.out _ _ | exact Below.drewN (HF1.out _ _) _⟩
              · skip
                go_wp2_with fail
                go_quiet (fail)
                go_wp2_with fail
                go_quiet (fail)
                go_wp2_with fail
                go_ret
                exact ⟨rfl, by first | exact HF1.out _ _ | exact Below.drewN (HF1.out _ _) _⟩
        · have hst2 : G = false := by simpa [hyv] using hst
          subst hst2
          have hyd : decide (v1 ≤ y) = true := by simp; omega
          clear hst HPM HKY HND HNO
          go_wp2_with fail
          go_quiet (fail)
          go_wp2_with fail
          go_ret
          exact ⟨rfl, by first | exact HF1.out _ _ | exact Below.drewN (HF1.out _ _) _⟩
    · have hik : i = k := by omega
      subst hik
      have hG1 : G = true := by rw [← HR.out.2, HK.out]; exact gfit_done _ _ _ _
      subst hG1
      clear hbw
      have HF2 : Hid (Below w.heap.size w wr) := Lib.hid (HB0.out.trans (HR.out.1.mono HB0.out.size))
      go_wp2_with fail
      go_ret
      exact ⟨rfl, HF2.out⟩
end Go.Proofs.YtmnloeolacmemaaGreat
