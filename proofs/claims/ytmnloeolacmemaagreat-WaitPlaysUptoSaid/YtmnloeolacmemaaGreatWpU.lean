/-
  gimletref22.Fit.
-/
import Derived.Test.YtmnloeolacmemaaGreatWpS
namespace Go.Proofs.YtmnloeolacmemaaGreat
open Go.RowKit

/-- what find answers, said by the row -/
theorem find_none {C : Nat → Nat} {w : World} {mb : Nat} {ev ov nv : Value} {l : List ER} {m : RSt} (h : RAt C w mb ev ov nv l m) (y : Int) (hl : m.nodes.length ≤ 1048576) (hx : rfind m.nodes y = none) (W : World) (hq : Eqv w W) :
    Calls Tryz.prog 25 #[.pointer (some ⟨mb, 0, none⟩), .int .i64 y] W fun r w' => r = .returned (.int .i64 (-1)) ∧ w' = W := by
  refine (find_any (h.eqv hq) y hl).mono ?_
  rintro r w' ⟨k, rfl, hf, rfl⟩
  rcases hf with ⟨rfl, _⟩ | ⟨i, hi, rfl, hn⟩
  · exact ⟨rfl, rfl⟩
  · have := List.find?_eq_none.1 hx _ (List.getElem_mem hi)
    simp [hn] at this
theorem find_some {C : Nat → Nat} {w : World} {mb : Nat} {ev ov nv : Value} {l : List ER} {m : RSt} (h : RAt C w mb ev ov nv l m) (y : Int) (hl : m.nodes.length ≤ 1048576) (hnd : (m.nodes.map (·.num)).Nodup) {x : RNd} (hx : rfind m.nodes y = some x) :
    ∃ I, ∃ hI : I < m.nodes.length, m.nodes[I] = x ∧ x.num = y ∧ ∀ W, Eqv w W → Calls Tryz.prog 25 #[.pointer (some ⟨mb, 0, none⟩), .int .i64 y] W fun r w' => r = .returned (.int .i64 (I : Nat)) ∧ w' = W := by
  have hxn : x.num = y := by simpa using List.find?_some hx
  obtain ⟨I, hI, hIx⟩ := List.getElem_of_mem (List.mem_of_find?_eq_some hx)
  refine ⟨I, hI, hIx, hxn, fun W hq => (find_any (h.eqv hq) y hl).mono ?_⟩
  rintro r w' ⟨k, rfl, hf, rfl⟩
  rcases hf with ⟨rfl, hno⟩ | ⟨i, hi, rfl, hn⟩
  · exact absurd hxn (by rw [← hIx]; exact hno _ (List.getElem_mem hI))
  · have h3 : (m.nodes.map (·.num))[i]'(by simpa using hi) = (m.nodes.map (·.num))[I]'(by simpa using hI) := by simp [hn, hIx, hxn]
    have : i = I := by
      rcases Nat.lt_trichotomy i I with hlt | heq | hgt
      · exact absurd h3 (List.pairwise_iff_getElem.1 hnd i I (by simpa using hi) (by simpa using hI) hlt)
      · exact heq
      · exact absurd h3.symm (List.pairwise_iff_getElem.1 hnd I i (by simpa using hI) (by simpa using hi) hgt)
    subst this
    exact ⟨rfl, rfl⟩
set_option maxRecDepth 1000000 in
set_option maxHeartbeats 40000000 in
theorem rfit_any {C : Nat → Nat} {w : World} {mb : Nat} {ev ov nv : Value} {l : List ER} {r : RSt} (h : RAt C w mb ev ov nv l r) (hnl : r.nodes.length ≤ 1048576) (hnd : (r.nodes.map (·.num)).Nodup)
    (kind num dep fr tt : Int) (name text : List UInt8) (A : Option Addr) (m c : Nat) (pc : List UInt8) (a : Option Addr) (k cv : Nat) (vs : List (Int × Int)) (hV : VsAt w a k vs) (hk : k ≤ 1048576) :
    Calls Tryz.prog 24 #[.pointer (some ⟨mb, 0, none⟩), .agg (evC kind num dep name A m c text fr tt), .slice a k cv] w fun e w' => e = .returned (.bool (gfit (fun j => (rfind r.nodes j).map (·.truth)) ⟨kind, num, fr, tt, pc⟩ none vs)) ∧ Below w.heap.size w w' := by
  have HK : Hid (k = vs.length) := Lib.hid hV.len
  have hb0 := (Below.refl w.heap.size w).alloc (Nat.le_refl _) (.cells (evC kind num dep name A m c text fr tt) 36)
  have h0 : (w.alloc (.cells (evC kind num dep name A m c text fr tt) 36)).heap[w.heap.size]? = some (.cells (evC kind num dep name A m c text fr tt) 36 (0, 0)) := heap_alloc_new w _
  have HB0 := Lib.hid hb0
  have H0 := Lib.hid h0
  have HR0 := Lib.hid (h.below hb0)
  have HV0 := Lib.hid (hV.below hb0)
  have HND := Lib.hid hnd
  clear h hV hb0 h0 hnd
  obtain ⟨G, hG⟩ : ∃ G, gfit (fun j => (rfind r.nodes j).map (·.truth)) ⟨kind, num, fr, tt, pc⟩ none vs = G := ⟨_, rfl⟩
  rw [hG]
  have HGG := Lib.hid hG
  clear hG
  unfold evC at *
  go_enter Tryz.func24, Tryz.ntmps24
  go_wp2_with fail
  generalize w.alloc (.cells #[.int .i64 kind, .int .i64 num, .int .i64 dep, .string (strL name), .slice A m c, .string (strL text), .int .i64 fr, .int .i64 tt] 36) = W0 at *
  go_loopw [7] (fun iv wr => ∃ i : Nat, iv = .int .i64 i ∧ i ≤ k ∧ Hid (Eqv W0 wr ∧ gfit (fun j => (rfind r.nodes j).map (·.truth)) ⟨kind, num, fr, tt, pc⟩ (prevN vs i) (vs.drop i) = G)) (fun iv _ => k - (intOf iv).toNat)
  case atStart => exact ⟨0, rfl, Nat.zero_le _, Lib.hid ⟨Eqv.refl _, by rw [← HGG.out]; rfl⟩⟩
  case round =>
    obtain ⟨i, rfl, hi', HR⟩ := hrel
    have hRr := HR0.out.eqv HR.out.1
    have hVr := HV0.out.below HR.out.1.below
    by_cases hin : i < k
    · have hil : i < vs.length := by rw [← HK.out]; exact hin
      obtain ⟨b, o, rfl, hbl, p2, q2⟩ := hVr.cell i hil
      have hst := gfit_step (fun j => (rfind r.nodes j).map (·.truth)) ⟨kind, num, fr, tt, pc⟩ vs i hil
      rw [HR.out.2] at hst
      simp only at hst
      obtain ⟨_, _, _, _, _, m5⟩ := hRr.cells
      have hbx : wr.heap[w.heap.size]? = some (.cells #[.int .i64 kind, .int .i64 num, .int .i64 dep, .string (strL name), .slice A m c, .string (strL text), .int .i64 fr, .int .i64 tt] 36 (0, 0)) := by rw [HR.out.1.heap]; exact H0.out
      obtain ⟨f0, f1, _, _, _, _, _, _⟩ := box_cells hbx
      have HRR := Lib.hid hRr
      have hpz : i = 0 → prevN vs i = none := fun e => by unfold prevN; rw [if_pos e]
      have hpv : ∀ j, i = j + 1 → ∃ y, prevN vs i = some y ∧ wr.cell? ⟨b, o + j * 2, none⟩ = some (.int .i64 y) := by
        intro j hj
        obtain ⟨b', o', e, _, p, _⟩ := hVr.cell j (by omega)
        injection e with e; injection e with e1 e2; subst e1; subst e2
        exact ⟨_, by unfold prevN; rw [if_neg (by omega), show i - 1 = j by omega, List.getElem?_eq_getElem (by omega)]; rfl, p⟩
      obtain ⟨GN, hGN⟩ : ∃ GN, gfit (fun j => (rfind r.nodes j).map (·.truth)) ⟨kind, num, fr, tt, pc⟩ (prevN vs (i + 1)) (vs.drop (i + 1)) = GN := ⟨_, rfl⟩
      rw [hGN] at hst
      have HGN := Lib.hid hGN
      have HQ1 : Hid (∀ W, Eqv wr W → Eqv W0 W) := Lib.hid fun W hq => HR.out.1.trans hq
      have HF1 : Hid (∀ W, Eqv wr W → Below w.heap.size w W) := Lib.hid fun W hq => HB0.out.trans ((HR.out.1.trans hq).below.mono HB0.out.size)
      have i1 : (0 : Int) ≤ (i : Int) := by omega
      have i2 : (i : Int) < (k : Int) := by omega
      have ew : IntKind.i64.wrap ((i : Int) + 1) = (i : Int) + 1 := IntWalk.i64_in _ (by omega)
      clear hGN hRr hVr hbx hbl
      generalize vs[i].1 = v1 at *
      generalize vs[i].2 = v2 at *
      by_cases hi0 : i = 0
      · rw [hpz hi0] at hst
        simp only [Bool.true_and] at hst
        have it1 : decide (0 < i) = false := by simp; omega
        have it2 : decide ((0 : Int) < (i : Int)) = false := by simp; omega
        clear hpv hpz hi0
        by_cases hown : kind ≠ 2 ∧ v1 = num
        · obtain ⟨hk2, rfl⟩ := hown
          rw [if_pos ⟨hk2, rfl⟩] at hst
          have ht : (kind == 2) = false := by simp [hk2]
          have ht3 : (kind != 2) = true := by simp [hk2]
          have ht4 : ¬ kind = 2 := hk2
          by_cases a1 : v2 = 1
          · subst a1
            have hst2 : G = GN := by simpa using hst
            subst hst2
            clear hst hk2
            go_wp2_with fail
            go_quiet (fail)
            go_wp2_with fail
            go_quiet (fail)
            go_wp2_with fail
            go_roundw
            case rel => exact ⟨i + 1, by go_num, by omega, Lib.hid ⟨HQ1.out _ ⟨_, rfl⟩, HGN.out⟩⟩
            case measure => simp [intOf]; omega
          by_cases a2 : v2 = 2
          · subst a2
            have hst2 : G = GN := by simpa using hst
            subst hst2
            clear hst hk2
            go_wp2_with fail
            go_quiet (fail)
            go_wp2_with fail
            go_quiet (fail)
            go_wp2_with fail
            go_roundw
            case rel => exact ⟨i + 1, by go_num, by omega, Lib.hid ⟨HQ1.out _ ⟨_, rfl⟩, HGN.out⟩⟩
            case measure => simp [intOf]; omega
          have hst2 : G = false := by simpa [a1, a2] using hst
          subst hst2
          have b1 : ¬ v2 = 1 := a1
          have b3 : (v2 != 1) = true := by simp [a1]
          have b2 : ¬ v2 = 2 := a2
          have b4 : (v2 != 2) = true := by simp [a2]
          clear hst hk2 a1 a2
          go_wp2_with fail
          go_quiet (fail)
          go_wp2_with fail
          go_quiet (fail)
          go_wp2_with fail
          go_ret
          exact ⟨rfl, HF1.out _ ⟨_, rfl⟩⟩
        rw [if_neg hown] at hst
        have hkn : kind = 2 ∨ ((kind != 2) = true ∧ (v1 == num) = false) := by
          by_cases e : kind = 2
          · exact .inl e
          · exact .inr ⟨by simp [e], by simp; exact fun e2 => hown ⟨e, e2⟩⟩
        clear hown
        cases hx : rfind r.nodes v1 with
        | none =>
          rw [hx] at hst
          have hst2 : G = false := by simpa using hst
          subst hst2
          have HFD := Lib.hid (find_none HRR.out v1 hnl hx)
          clear hst hx
          rcases hkn with rfl | ⟨ht, ht2⟩
          · skip
            go_wp2_with fail
            go_quiet (fail)
            go_wp2_with fail
            go_quiet (fail)
            go_wp2_with fail
            (with_reducible refine (HFD.out _ ?_).mono ?_)
            · exact ⟨_, rfl⟩
            rintro e9 w9 ⟨rfl, rfl⟩
            go_wp2_with fail
            go_ret
            exact ⟨rfl, HF1.out _ ⟨_, rfl⟩⟩
          · skip
            go_wp2_with fail
            go_quiet (fail)
            go_wp2_with fail
            go_quiet (fail)
            go_wp2_with fail
            (with_reducible refine (HFD.out _ ?_).mono ?_)
            · exact ⟨_, rfl⟩
            rintro e9 w9 ⟨rfl, rfl⟩
            go_wp2_with fail
            go_ret
            exact ⟨rfl, HF1.out _ ⟨_, rfl⟩⟩
        | some x =>
          rw [hx] at hst
          simp only [Option.map_some] at hst
          obtain ⟨I, hI, hIx, _, hfd⟩ := find_some HRR.out v1 hnl HND.out hx
          have HFD := Lib.hid hfd
          obtain ⟨na, nc, hnv, _, hcell⟩ := HRR.out.node5
          obtain ⟨g, off, rfl, _, _, _, _, _, n2, _, _⟩ := hcell I hI
          rw [hIx] at n2
          rw [hnv] at m5
          obtain ⟨NL, hNL⟩ : ∃ NL, r.nodes.length = NL := ⟨_, rfl⟩
          rw [hNL] at m5 hI
          have j1 : (0 : Int) ≤ (I : Int) := by omega
          have j2 : (I : Int) < (NL : Int) := by omega
          have j3 : decide ((I : Int) < 0) = false := by simp
          generalize x.truth = xt at *
          clear hx hfd hcell hIx hnv hNL
          by_cases hxt : xt = 1
          · subst hxt
            by_cases a2 : v2 = 2
            · subst a2
              have hst2 : G = GN := by simpa using hst
              subst hst2
              clear hst
              rcases hkn with rfl | ⟨ht, ht2⟩
              · skip
                go_wp2_with fail
                go_quiet (fail)
                go_wp2_with fail
                go_quiet (fail)
                go_wp2_with fail
                (with_reducible refine (HFD.out _ ?_).mono ?_)
                · exact ⟨_, rfl⟩
                rintro e9 w9 ⟨rfl, rfl⟩
                go_wp2_with fail
                go_roundw
                case rel => exact ⟨i + 1, by go_num, by omega, Lib.hid ⟨HQ1.out _ ⟨_, rfl⟩, HGN.out⟩⟩
                case measure => simp [intOf]; omega
              · skip
                go_wp2_with fail
                go_quiet (fail)
                go_wp2_with fail
                go_quiet (fail)
                go_wp2_with fail
                (with_reducible refine (HFD.out _ ?_).mono ?_)
                · exact ⟨_, rfl⟩
                rintro e9 w9 ⟨rfl, rfl⟩
                go_wp2_with fail
                go_roundw
                case rel => exact ⟨i + 1, by go_num, by omega, Lib.hid ⟨HQ1.out _ ⟨_, rfl⟩, HGN.out⟩⟩
                case measure => simp [intOf]; omega
            by_cases a0 : v2 = 0
            · subst a0
              have hst2 : G = GN := by simpa using hst
              subst hst2
              clear hst
              rcases hkn with rfl | ⟨ht, ht2⟩
              · skip
                go_wp2_with fail
                go_quiet (fail)
                go_wp2_with fail
                go_quiet (fail)
                go_wp2_with fail
                (with_reducible refine (HFD.out _ ?_).mono ?_)
                · exact ⟨_, rfl⟩
                rintro e9 w9 ⟨rfl, rfl⟩
                go_wp2_with fail
                go_roundw
                case rel => exact ⟨i + 1, by go_num, by omega, Lib.hid ⟨HQ1.out _ ⟨_, rfl⟩, HGN.out⟩⟩
                case measure => simp [intOf]; omega
              · skip
                go_wp2_with fail
                go_quiet (fail)
                go_wp2_with fail
                go_quiet (fail)
                go_wp2_with fail
                (with_reducible refine (HFD.out _ ?_).mono ?_)
                · exact ⟨_, rfl⟩
                rintro e9 w9 ⟨rfl, rfl⟩
                go_wp2_with fail
                go_roundw
                case rel => exact ⟨i + 1, by go_num, by omega, Lib.hid ⟨HQ1.out _ ⟨_, rfl⟩, HGN.out⟩⟩
                case measure => simp [intOf]; omega
            have hst2 : G = false := by simpa [a2, a0] using hst
            subst hst2
            have b1 : ¬ v2 = 2 := a2
            have b3 : (v2 != 2) = true := by simp [a2]
            have b2 : ¬ v2 = 0 := a0
            have b4 : (v2 != 0) = true := by simp [a0]
            clear hst a2 a0
            rcases hkn with rfl | ⟨ht, ht2⟩
            · skip
              go_wp2_with fail
              go_quiet (fail)
              go_wp2_with fail
              go_quiet (fail)
              go_wp2_with fail
              (with_reducible refine (HFD.out _ ?_).mono ?_)
              · exact ⟨_, rfl⟩
              rintro e9 w9 ⟨rfl, rfl⟩
              go_wp2_with fail
              go_ret
              exact ⟨rfl, HF1.out _ ⟨_, rfl⟩⟩
            · skip
              go_wp2_with fail
              go_quiet (fail)
              go_wp2_with fail
              go_quiet (fail)
              go_wp2_with fail
              (with_reducible refine (HFD.out _ ?_).mono ?_)
              · exact ⟨_, rfl⟩
              rintro e9 w9 ⟨rfl, rfl⟩
              go_wp2_with fail
              go_ret
              exact ⟨rfl, HF1.out _ ⟨_, rfl⟩⟩
          · have hst2 : G = false := by simpa [hxt] using hst
            subst hst2
            have b1 : ¬ xt = 1 := hxt
            have b3 : (xt != 1) = true := by simp [hxt]
            clear hst hxt
            rcases hkn with rfl | ⟨ht, ht2⟩
            · skip
              go_wp2_with fail
              go_quiet (fail)
              go_wp2_with fail
              go_quiet (fail)
              go_wp2_with fail
              (with_reducible refine (HFD.out _ ?_).mono ?_)
              · exact ⟨_, rfl⟩
              rintro e9 w9 ⟨rfl, rfl⟩
              go_wp2_with fail
              go_ret
              exact ⟨rfl, HF1.out _ ⟨_, rfl⟩⟩
            · skip
              go_wp2_with fail
              go_quiet (fail)
              go_wp2_with fail
              go_quiet (fail)
              go_wp2_with fail
              (with_reducible refine (HFD.out _ ?_).mono ?_)
              · exact ⟨_, rfl⟩
              rintro e9 w9 ⟨rfl, rfl⟩
              go_wp2_with fail
              go_ret
              exact ⟨rfl, HF1.out _ ⟨_, rfl⟩⟩
      · obtain ⟨j, hj⟩ : ∃ j, i = j + 1 := ⟨i - 1, by omega⟩
        obtain ⟨y, y1, y2⟩ := hpv j hj
        rw [y1] at hst
        simp only at hst
        clear hpv hpz hi0 y1
        have ew1 : IntKind.i64.wrap ((i : Int) - 1) = (j : Int) := by rw [IntWalk.i64_in _ (by omega)]; omega
        have i3 : (0 : Int) < (i : Int) := by omega
        have i3' : 0 < i := by omega
        have i4 : (j : Int) < (k : Int) := by omega
        have i5 : (0 : Int) ≤ (j : Int) := by omega
        clear hj
        by_cases hyv : y < v1
        · rw [decide_eq_true hyv, Bool.true_and] at hst
          have hyd : decide (v1 ≤ y) = false := by simp; omega
          by_cases hown : kind ≠ 2 ∧ v1 = num
          · obtain ⟨hk2, rfl⟩ := hown
            rw [if_pos ⟨hk2, rfl⟩] at hst
            have ht : (kind == 2) = false := by simp [hk2]
            have ht3 : (kind != 2) = true := by simp [hk2]
            have ht4 : ¬ kind = 2 := hk2
            by_cases a1 : v2 = 1
            · subst a1
              have hst2 : G = GN := by simpa using hst
              subst hst2
              clear hst hk2
              go_wp2_with fail
              go_quiet (fail)
              go_wp2_with fail
              go_quiet (fail)
              go_wp2_with fail
              go_roundw
              case rel => exact ⟨i + 1, by go_num, by omega, Lib.hid ⟨HQ1.out _ ⟨_, rfl⟩, HGN.out⟩⟩
              case measure => simp [intOf]; omega
            by_cases a2 : v2 = 2
            · subst a2
              have hst2 : G = GN := by simpa using hst
              subst hst2
              clear hst hk2
              go_wp2_with fail
              go_quiet (fail)
              go_wp2_with fail
              go_quiet (fail)
              go_wp2_with fail
              go_roundw
              case rel => exact ⟨i + 1, by go_num, by omega, Lib.hid ⟨HQ1.out _ ⟨_, rfl⟩, HGN.out⟩⟩
              case measure => simp [intOf]; omega
            have hst2 : G = false := by simpa [a1, a2] using hst
            subst hst2
            have b1 : ¬ v2 = 1 := a1
            have b3 : (v2 != 1) = true := by simp [a1]
            have b2 : ¬ v2 = 2 := a2
            have b4 : (v2 != 2) = true := by simp [a2]
            clear hst hk2 a1 a2
            go_wp2_with fail
            go_quiet (fail)
            go_wp2_with fail
            go_quiet (fail)
            go_wp2_with fail
            go_ret
            exact ⟨rfl, HF1.out _ ⟨_, rfl⟩⟩
          rw [if_neg hown] at hst
          have hkn : kind = 2 ∨ ((kind != 2) = true ∧ (v1 == num) = false) := by
            by_cases e : kind = 2
            · exact .inl e
            · exact .inr ⟨by simp [e], by simp; exact fun e2 => hown ⟨e, e2⟩⟩
          clear hown
          cases hx : rfind r.nodes v1 with
          | none =>
            rw [hx] at hst
            have hst2 : G = false := by simpa using hst
            subst hst2
            have HFD := Lib.hid (find_none HRR.out v1 hnl hx)
            clear hst hx
            rcases hkn with rfl | ⟨ht, ht2⟩
            · skip
              go_wp2_with fail
              go_quiet (fail)
              go_wp2_with fail
              go_quiet (fail)
              go_wp2_with fail
              (with_reducible refine (HFD.out _ ?_).mono ?_)
              · exact ⟨_, rfl⟩
              rintro e9 w9 ⟨rfl, rfl⟩
              go_wp2_with fail
              go_ret
              exact ⟨rfl, HF1.out _ ⟨_, rfl⟩⟩
            · skip
              go_wp2_with fail
              go_quiet (fail)
              go_wp2_with fail
              go_quiet (fail)
              go_wp2_with fail
              (with_reducible refine (HFD.out _ ?_).mono ?_)
              · exact ⟨_, rfl⟩
              rintro e9 w9 ⟨rfl, rfl⟩
              go_wp2_with fail
              go_ret
              exact ⟨rfl, HF1.out _ ⟨_, rfl⟩⟩
          | some x =>
            rw [hx] at hst
            simp only [Option.map_some] at hst
            obtain ⟨I, hI, hIx, _, hfd⟩ := find_some HRR.out v1 hnl HND.out hx
            have HFD := Lib.hid hfd
            obtain ⟨na, nc, hnv, _, hcell⟩ := HRR.out.node5
            obtain ⟨g, off, rfl, _, _, _, _, _, n2, _, _⟩ := hcell I hI
            rw [hIx] at n2
            rw [hnv] at m5
            obtain ⟨NL, hNL⟩ : ∃ NL, r.nodes.length = NL := ⟨_, rfl⟩
            rw [hNL] at m5 hI
            have j1 : (0 : Int) ≤ (I : Int) := by omega
            have j2 : (I : Int) < (NL : Int) := by omega
            have j3 : decide ((I : Int) < 0) = false := by simp
            generalize x.truth = xt at *
            clear hx hfd hcell hIx hnv hNL
            by_cases hxt : xt = 1
            · subst hxt
              by_cases a2 : v2 = 2
              · subst a2
                have hst2 : G = GN := by simpa using hst
                subst hst2
                clear hst
                rcases hkn with rfl | ⟨ht, ht2⟩
                · skip
                  go_wp2_with fail
                  go_quiet (fail)
                  go_wp2_with fail
                  go_quiet (fail)
                  go_wp2_with fail
                  (with_reducible refine (HFD.out _ ?_).mono ?_)
                  · exact ⟨_, rfl⟩
                  rintro e9 w9 ⟨rfl, rfl⟩
                  go_wp2_with fail
                  go_roundw
                  case rel => exact ⟨i + 1, by go_num, by omega, Lib.hid ⟨HQ1.out _ ⟨_, rfl⟩, HGN.out⟩⟩
                  case measure => simp [intOf]; omega
                · skip
                  go_wp2_with fail
                  go_quiet (fail)
                  go_wp2_with fail
                  go_quiet (fail)
                  go_wp2_with fail
                  (with_reducible refine (HFD.out _ ?_).mono ?_)
                  · exact ⟨_, rfl⟩
                  rintro e9 w9 ⟨rfl, rfl⟩
                  go_wp2_with fail
                  go_roundw
                  case rel => exact ⟨i + 1, by go_num, by omega, Lib.hid ⟨HQ1.out _ ⟨_, rfl⟩, HGN.out⟩⟩
                  case measure => simp [intOf]; omega
              by_cases a0 : v2 = 0
              · subst a0
                have hst2 : G = GN := by simpa using hst
                subst hst2
                clear hst
                rcases hkn with rfl | ⟨ht, ht2⟩
                · skip
                  go_wp2_with fail
                  go_quiet (fail)
                  go_wp2_with fail
                  go_quiet (fail)
                  go_wp2_with fail
                  (with_reducible refine (HFD.out _ ?_).mono ?_)
                  · exact ⟨_, rfl⟩
                  rintro e9 w9 ⟨rfl, rfl⟩
                  go_wp2_with fail
                  go_roundw
                  case rel => exact ⟨i + 1, by go_num, by omega, Lib.hid ⟨HQ1.out _ ⟨_, rfl⟩, HGN.out⟩⟩
                  case measure => simp [intOf]; omega
                · skip
                  go_wp2_with fail
                  go_quiet (fail)
                  go_wp2_with fail
                  go_quiet (fail)
                  go_wp2_with fail
                  (with_reducible refine (HFD.out _ ?_).mono ?_)
                  · exact ⟨_, rfl⟩
                  rintro e9 w9 ⟨rfl, rfl⟩
                  go_wp2_with fail
                  go_roundw
                  case rel => exact ⟨i + 1, by go_num, by omega, Lib.hid ⟨HQ1.out _ ⟨_, rfl⟩, HGN.out⟩⟩
                  case measure => simp [intOf]; omega
              have hst2 : G = false := by simpa [a2, a0] using hst
              subst hst2
              have b1 : ¬ v2 = 2 := a2
              have b3 : (v2 != 2) = true := by simp [a2]
              have b2 : ¬ v2 = 0 := a0
              have b4 : (v2 != 0) = true := by simp [a0]
              clear hst a2 a0
              rcases hkn with rfl | ⟨ht, ht2⟩
              · skip
                go_wp2_with fail
                go_quiet (fail)
                go_wp2_with fail
                go_quiet (fail)
                go_wp2_with fail
                (with_reducible refine (HFD.out _ ?_).mono ?_)
                · exact ⟨_, rfl⟩
                rintro e9 w9 ⟨rfl, rfl⟩
                go_wp2_with fail
                go_ret
                exact ⟨rfl, HF1.out _ ⟨_, rfl⟩⟩
              · skip
                go_wp2_with fail
                go_quiet (fail)
                go_wp2_with fail
                go_quiet (fail)
                go_wp2_with fail
                (with_reducible refine (HFD.out _ ?_).mono ?_)
                · exact ⟨_, rfl⟩
                rintro e9 w9 ⟨rfl, rfl⟩
                go_wp2_with fail
                go_ret
                exact ⟨rfl, HF1.out _ ⟨_, rfl⟩⟩
            · have hst2 : G = false := by simpa [hxt] using hst
              subst hst2
              have b1 : ¬ xt = 1 := hxt
              have b3 : (xt != 1) = true := by simp [hxt]
              clear hst hxt
              rcases hkn with rfl | ⟨ht, ht2⟩
              · skip
                go_wp2_with fail
                go_quiet (fail)
                go_wp2_with fail
                go_quiet (fail)
                go_wp2_with fail
                (with_reducible refine (HFD.out _ ?_).mono ?_)
                · exact ⟨_, rfl⟩
                rintro e9 w9 ⟨rfl, rfl⟩
                go_wp2_with fail
                go_ret
                exact ⟨rfl, HF1.out _ ⟨_, rfl⟩⟩
              · skip
                go_wp2_with fail
                go_quiet (fail)
                go_wp2_with fail
                go_quiet (fail)
                go_wp2_with fail
                (with_reducible refine (HFD.out _ ?_).mono ?_)
                · exact ⟨_, rfl⟩
                rintro e9 w9 ⟨rfl, rfl⟩
                go_wp2_with fail
                go_ret
                exact ⟨rfl, HF1.out _ ⟨_, rfl⟩⟩
        · have hst2 : G = false := by simpa [hyv] using hst
          subst hst2
          have hyd : decide (v1 ≤ y) = true := by simp; omega
          clear hst
          go_wp2_with fail
          go_quiet (fail)
          go_wp2_with fail
          go_ret
          exact ⟨rfl, HF1.out _ ⟨_, rfl⟩⟩
    · have hik : i = k := by omega
      subst hik
      have hG1 : G = true := by rw [← HR.out.2, HK.out]; exact gfit_done _ _ _ _
      subst hG1
      have HF2 : Hid (Below w.heap.size w wr) := Lib.hid (HB0.out.trans (HR.out.1.below.mono HB0.out.size))
      clear hRr hVr
      go_wp2_with fail
      go_ret
      exact ⟨rfl, HF2.out⟩
end Go.Proofs.YtmnloeolacmemaaGreat
