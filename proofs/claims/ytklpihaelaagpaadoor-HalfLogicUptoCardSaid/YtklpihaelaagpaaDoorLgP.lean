/-
  ask.goodExpr.
-/
import Derived.Test.YtklpihaelaagpaaDoorLgO
namespace Go.Proofs.YtklpihaelaagpaaDoor
open Go.RowKit

set_option maxRecDepth 100000 in
set_option maxHeartbeats 8000000 in
theorem goodSome_any {f : Nat} (GX : GoodX f) (x : PX) (cs : List Value) (w : World) (hE : EnvT w) (h : XAt (f + 1) w x cs) (hop : x.op = 3) :
    Calls Tryd.prog 44 #[.agg cs.toArray] w fun e w' => e = .returned (.bool (goodXB (f + 1) x)) ∧ Below w.heap.size w w' := by
  obtain ⟨aa, ac, pa, pc, rfl, hal, hpl, _, _, _, hatl, htxl, hargl, hpathl, hargs, hpath⟩ := h
  have hb0 := (Below.refl w.heap.size w).alloc (Nat.le_refl _) (.cells (exprC x aa ac pa pc).toArray 30)
  have HB0 := Lib.hid hb0
  have HGP : Hid (Calls Tryd.prog 14 #[.agg #[.slice pa x.path.length pc]] (w.alloc (.cells (exprC x aa ac pa pc).toArray 30)) fun e w' => e = .returned (.bool (goodPB (goodXB f) x.path)) ∧ Below (w.alloc (.cells (exprC x aa ac pa pc).toArray 30)).heap.size (w.alloc (.cells (exprC x aa ac pa pc).toArray 30)) w') :=
    Lib.hid (goodPath_any GX pa pc x.path _ (hE.below hb0) (SsAt.below hpath hb0) hpathl)
  have HNM : Hid (∀ W, Below w.heap.size w W → Calls Tryd.prog 41 #[.string (strL x.attr)] W fun e w' => e = .returned (.bool (nameB x.attr)) ∧ Below W.heap.size W w') := Lib.hid fun W hW => nameL_any x.attr W hatl (hE.below hW)
  have HGT : Hid (∀ W, Below w.heap.size w W → Calls Tryd.prog 60 #[.string (strL x.text)] W fun e w' => e = .returned (.bool (goodTB x.text)) ∧ Below W.heap.size W w') := Lib.hid fun W hW => goodText_any x.text W htxl (hE.below hW)
  have hse := strL_isE2 x.attr
  have hst := strL_isE2 x.text
  have hb0s : (w.alloc (.cells (exprC x aa ac pa pc).toArray 30)).heap.size = w.heap.size + 1 := by simp
  have HCL : Hid (∀ W, Below (w.alloc (.cells (exprC x aa ac pa pc).toArray 30)).heap.size (w.alloc (.cells (exprC x aa ac pa pc).toArray 30)) W → W.cell? ⟨w.heap.size, 3, none⟩ = some (.string (strL x.attr)) ∧ W.cell? ⟨w.heap.size, 4, none⟩ = some (.int .i64 x.cmp) ∧ W.cell? ⟨w.heap.size, 5, none⟩ = some (.string (strL x.text)) ∧ W.cell? ⟨w.heap.size, 6, none⟩ = some (.int .i64 x.num)) := Lib.hid fun W hW => by
    have k := fun j => hW.cell (p := ⟨w.heap.size, j, none⟩) (by rw [hb0s]; exact Nat.lt_succ_self _)
    refine ⟨(k 3).trans ?_, (k 4).trans ?_, (k 5).trans ?_, (k 6).trans ?_⟩ <;> (rw [cell_heap (heap_alloc_new w _)]; rfl)
  obtain ⟨R, hR⟩ : ∃ R, goodXB (f + 1) x = R := ⟨_, rfl⟩
  rw [hR]
  have HR : Hid ((x.args.isEmpty && goodPB (goodXB f) x.path && (x.attr.isEmpty || nameB x.attr) && goodCB x.cmp x.text x.num) = R) := Lib.hid (by rw [← hR]; unfold goodXB; rw [if_pos hop])
  have HSZ : Hid (w.heap.size + 1 ≤ (w.alloc (.cells (exprC x aa ac pa pc).toArray 30)).heap.size) := Lib.hid (by rw [hb0s]; exact Nat.le_refl _)
  clear hb0 hE hargs hpath hR hb0s hatl htxl
  unfold exprC at *
  rw [hop] at *
  have hne : x.args.isEmpty = decide (x.args.length = 0) := by cases x.args <;> simp
  rw [hne] at HR
  clear hop hne
  generalize x.args.length = n at *
  generalize x.path.length = m at *
  generalize goodPB (goodXB f) x.path = G2 at *
  generalize x.attr.isEmpty = E3 at *
  generalize nameB x.attr = V3 at *
  generalize x.attr = at3 at *
  generalize x.cmp = cm at *
  generalize x.text = tx at *
  generalize x.num = nu at *
  by_cases hn : n = 0
  rotate_left
  · have HF : Hid (false = R) := Lib.hid (by rw [← HR.out, decide_eq_false hn]; rfl)
    have i1 : (0 : Int) < (n : Int) := by omega
    clear HGT HCL
    go_enter Tryd.func44, Tryd.ntmps44
    go_wp2_with fail
    go_ret
    exact ⟨ret_bool HF.out, HB0.out⟩
  subst hn
  simp only [decide_true, Bool.true_and] at HR
  go_enter Tryd.func44, Tryd.ntmps44
  go_wp2_with fail
  (with_reducible refine HGP.out.mono ?_)
  rintro e w2 ⟨rfl, hb2⟩
  have HB2 := Lib.hid (HB0.out.trans (hb2.mono HB0.out.size))
  have HZ2 := Lib.hid (Nat.le_trans HSZ.out hb2.size)
  have HC2 := Lib.hid (HCL.out w2 hb2)
  have HK2 := Lib.hid hb2
  clear hb2
  cases G2 with
  | false =>
    go_wp2_with fail
    go_ret
    exact ⟨ret_bool HR.out, HB2.out⟩
  | true =>
    simp only [Bool.true_and] at HR
    cases E3 with
    | true =>
      simp only [Bool.true_or, Bool.true_and] at HR
      obtain ⟨c3, c4, c5, c6⟩ := HC2.out
      have HBW := HB2
      have HSW := HZ2
      clear HCL HNM HGP HK2
      by_cases d0 : cm = 0
      · subst d0
        rw [show goodCB 0 tx nu = (tx.isEmpty && nu == 0) from rfl] at HR
        clear HGT
        generalize tx.isEmpty = E5 at *
        cases E5 with
        | false =>
          go_wp2_with fail
          go_ret
          exact ⟨ret_bool HR.out, HBW.out⟩
        | true =>
          go_wp2_with fail
          go_ret
          exact ⟨ret_bool HR.out, HBW.out⟩
      have t0 : ((cm : Int) == 0) = false := by simpa using d0
      by_cases d1 : 1 ≤ cm ∧ cm ≤ 5
      · rw [show goodCB cm tx nu = (goodTB tx && nu == 0) from by unfold goodCB; rw [if_neg d0, if_pos d1]] at HR
        have d2 : cm = 1 ∨ cm = 2 ∨ cm = 3 ∨ cm = 4 ∨ cm = 5 := by omega
        generalize goodTB tx = G5 at *
        rcases d2 with rfl | rfl | rfl | rfl | rfl
        all_goals
          go_wp2_with fail
          (with_reducible refine (HGT.out _ HBW.out).mono ?_)
          rintro e w7 ⟨rfl, hb7⟩
          have HB7 := Lib.hid (HBW.out.trans (hb7.mono HBW.out.size))
          have c67 : w7.cell? ⟨w.heap.size, 6, none⟩ = some (.int .i64 nu) := by
            rw [hb7.cell (p := ⟨w.heap.size, 6, none⟩) (Nat.lt_of_succ_le HSW.out)]; exact c6
          clear hb7
          cases G5 with
          | false =>
            go_wp2_with fail
            go_ret
            exact ⟨ret_bool HR.out, HB7.out⟩
          | true =>
            go_wp2_with fail
            go_ret
            exact ⟨ret_bool HR.out, HB7.out⟩
      clear HGT
      by_cases d3 : 6 ≤ cm ∧ cm ≤ 8
      · rw [show goodCB cm tx nu = (tx.isEmpty && decide (0 ≤ nu) && decide (nu ≤ 1000000)) from by unfold goodCB; rw [if_neg d0, if_neg d1, if_pos d3]] at HR
        have d2 : cm = 6 ∨ cm = 7 ∨ cm = 8 := by omega
        generalize tx.isEmpty = E5 at *
        clear d0 d1 d3
        rcases d2 with rfl | rfl | rfl
        all_goals
          cases E5 with
          | false =>
            go_wp2_with fail
            go_ret
            exact ⟨ret_bool HR.out, HBW.out⟩
          | true =>
            by_cases d4 : 0 ≤ nu
            · have HR2 : Hid (decide (nu ≤ 1000000) = R) := Lib.hid (by rw [← HR.out, decide_eq_true d4]; rfl)
              go_wp2_with fail
              go_ret
              exact ⟨ret_bool HR2.out, HBW.out⟩
            · have d5 : nu < 0 := by omega
              have HR2 : Hid (false = R) := Lib.hid (by rw [← HR.out, decide_eq_false d4]; rfl)
              go_wp2_with fail
              go_ret
              exact ⟨ret_bool HR2.out, HBW.out⟩
      have HF : Hid (false = R) := Lib.hid (by rw [← HR.out]; unfold goodCB; rw [if_neg d0, if_neg d1, if_neg d3])
      have t1 : ((cm : Int) == 1) = false := by simp; omega
      have t2 : ((cm : Int) == 2) = false := by simp; omega
      have t3 : ((cm : Int) == 3) = false := by simp; omega
      have t4 : ((cm : Int) == 4) = false := by simp; omega
      have t5 : ((cm : Int) == 5) = false := by simp; omega
      have t6 : ((cm : Int) == 6) = false := by simp; omega
      have t7 : ((cm : Int) == 7) = false := by simp; omega
      have t8 : ((cm : Int) == 8) = false := by simp; omega
      clear d0 d1 d3
      go_wp2_with fail
      go_ret
      exact ⟨ret_bool HF.out, HBW.out⟩
    | false =>
      simp only [Bool.false_or] at HR
      obtain ⟨c3, c4', c5', c6'⟩ := HC2.out
      go_wp2_with fail
      (with_reducible refine (HNM.out _ HB2.out).mono ?_)
      rintro e w3 ⟨rfl, hb3⟩
      have HBW := Lib.hid (HB2.out.trans (hb3.mono HB2.out.size))
      have HK3 := Lib.hid (HK2.out.trans (hb3.mono HK2.out.size))
      have HSW := Lib.hid (Nat.le_trans HZ2.out hb3.size)
      clear hb3 c3 c4' c5' c6'
      cases V3 with
      | false =>
        go_wp2_with fail
        go_ret
        exact ⟨ret_bool HR.out, HBW.out⟩
      | true =>
        simp only [Bool.true_and] at HR
        obtain ⟨c3, c4, c5, c6⟩ := HCL.out _ HK3.out
        clear HCL HNM HGP HK2 HK3
        by_cases d0 : cm = 0
        · subst d0
          rw [show goodCB 0 tx nu = (tx.isEmpty && nu == 0) from rfl] at HR
          clear HGT
          generalize tx.isEmpty = E5 at *
          cases E5 with
          | false =>
            go_wp2_with fail
            go_ret
            exact ⟨ret_bool HR.out, HBW.out⟩
          | true =>
            go_wp2_with fail
            go_ret
            exact ⟨ret_bool HR.out, HBW.out⟩
        have t0 : ((cm : Int) == 0) = false := by simpa using d0
        by_cases d1 : 1 ≤ cm ∧ cm ≤ 5
        · rw [show goodCB cm tx nu = (goodTB tx && nu == 0) from by unfold goodCB; rw [if_neg d0, if_pos d1]] at HR
          have d2 : cm = 1 ∨ cm = 2 ∨ cm = 3 ∨ cm = 4 ∨ cm = 5 := by omega
          generalize goodTB tx = G5 at *
          rcases d2 with rfl | rfl | rfl | rfl | rfl
          all_goals
            go_wp2_with fail
            (with_reducible refine (HGT.out _ HBW.out).mono ?_)
            rintro e w7 ⟨rfl, hb7⟩
            have HB7 := Lib.hid (HBW.out.trans (hb7.mono HBW.out.size))
            have c67 : w7.cell? ⟨w.heap.size, 6, none⟩ = some (.int .i64 nu) := by
              rw [hb7.cell (p := ⟨w.heap.size, 6, none⟩) (Nat.lt_of_succ_le HSW.out)]; exact c6
            clear hb7
            cases G5 with
            | false =>
              go_wp2_with fail
              go_ret
              exact ⟨ret_bool HR.out, HB7.out⟩
            | true =>
              go_wp2_with fail
              go_ret
              exact ⟨ret_bool HR.out, HB7.out⟩
        clear HGT
        by_cases d3 : 6 ≤ cm ∧ cm ≤ 8
        · rw [show goodCB cm tx nu = (tx.isEmpty && decide (0 ≤ nu) && decide (nu ≤ 1000000)) from by unfold goodCB; rw [if_neg d0, if_neg d1, if_pos d3]] at HR
          have d2 : cm = 6 ∨ cm = 7 ∨ cm = 8 := by omega
          generalize tx.isEmpty = E5 at *
          clear d0 d1 d3
          rcases d2 with rfl | rfl | rfl
          all_goals
            cases E5 with
            | false =>
              go_wp2_with fail
              go_ret
              exact ⟨ret_bool HR.out, HBW.out⟩
            | true =>
              by_cases d4 : 0 ≤ nu
              · have HR2 : Hid (decide (nu ≤ 1000000) = R) := Lib.hid (by rw [← HR.out, decide_eq_true d4]; rfl)
                go_wp2_with fail
                go_ret
                exact ⟨ret_bool HR2.out, HBW.out⟩
              · have d5 : nu < 0 := by omega
                have HR2 : Hid (false = R) := Lib.hid (by rw [← HR.out, decide_eq_false d4]; rfl)
                go_wp2_with fail
                go_ret
                exact ⟨ret_bool HR2.out, HBW.out⟩
        have HF : Hid (false = R) := Lib.hid (by rw [← HR.out]; unfold goodCB; rw [if_neg d0, if_neg d1, if_neg d3])
        have t1 : ((cm : Int) == 1) = false := by simp; omega
        have t2 : ((cm : Int) == 2) = false := by simp; omega
        have t3 : ((cm : Int) == 3) = false := by simp; omega
        have t4 : ((cm : Int) == 4) = false := by simp; omega
        have t5 : ((cm : Int) == 5) = false := by simp; omega
        have t6 : ((cm : Int) == 6) = false := by simp; omega
        have t7 : ((cm : Int) == 7) = false := by simp; omega
        have t8 : ((cm : Int) == 8) = false := by simp; omega
        clear d0 d1 d3
        go_wp2_with fail
        go_ret
        exact ⟨ret_bool HF.out, HBW.out⟩
set_option maxRecDepth 100000 in
set_option maxHeartbeats 8000000 in
theorem goodElse_any {f : Nat} (GX : GoodX f) (x : PX) (cs : List Value) (w : World) (hE : EnvT w) (h : XAt (f + 1) w x cs) (hop : x.op ≠ 3) :
    Calls Tryd.prog 44 #[.agg cs.toArray] w fun e w' => e = .returned (.bool (goodXB (f + 1) x)) ∧ Below w.heap.size w w' := by
  obtain ⟨aa, ac, pa, pc, rfl, hal, hpl, _, _, _, hatl, htxl, hargl, hpathl, hargs, hpath⟩ := h
  have hb0 := (Below.refl w.heap.size w).alloc (Nat.le_refl _) (.cells (exprC x aa ac pa pc).toArray 30)
  have HB0 := Lib.hid hb0
  have HCA : Hid (Calls Tryd.prog 42 #[.slice aa x.args.length ac, .func (.func 61) #[] #[]] (w.alloc (.cells (exprC x aa ac pa pc).toArray 30)) fun e w' => e = .returned (.bool (x.args.any fun y => !goodXB f y)) ∧ Below (w.alloc (.cells (exprC x aa ac pa pc).toArray 30)).heap.size (w.alloc (.cells (exprC x aa ac pa pc).toArray 30)) w') := Lib.hid
    (containsArgs_any f ac aa x.args (fun y => !goodXB f y) _ (XsAt.below hargs hb0) hargl fun y cs W' _ hW' hx => gexpr1_any GX y cs W' ((hE.below hb0).below hW') hx)
  have hse := strL_isE2 x.attr
  have hst := strL_isE2 x.text
  obtain ⟨R, hR⟩ : ∃ R, goodXB (f + 1) x = R := ⟨_, rfl⟩
  rw [hR]
  have HR : Hid ((bareB x && (if x.op = 0 ∨ x.op = 1 then decide (2 ≤ x.args.length) else if x.op = 2 then decide (x.args.length = 1) else false) && !(x.args.any fun y => !goodXB f y)) = R) := Lib.hid (by rw [← hR, any_not]; unfold goodXB; rw [if_neg hop])
  have t3 : ((x.op : Int) == 3) = false := by simpa using hop
  clear hb0 hE hargs hpath hR hatl htxl hop
  unfold exprC at *
  unfold bareB at HR
  have hne : x.path.isEmpty = decide (x.path.length = 0) := by cases x.path <;> simp
  rw [hne] at HR
  clear hne
  generalize (x.args.any fun y => !goodXB f y) = Q at *
  generalize x.args.length = n at *
  generalize x.path.length = m at *
  generalize x.attr.isEmpty = E3 at *
  generalize x.text.isEmpty = E5 at *
  generalize x.attr = at3 at *
  generalize x.cmp = cm at *
  generalize x.text = tx at *
  generalize x.num = nu at *
  generalize x.op = op at *
  by_cases hm : m = 0
  rotate_left
  · have HF : Hid (false = R) := Lib.hid (by rw [← HR.out, decide_eq_false hm]; rfl)
    have i1 : (0 : Int) < (m : Int) := by omega
    go_enter Tryd.func44, Tryd.ntmps44
    go_wp2_with fail
    go_ret
    exact ⟨ret_bool HF.out, HB0.out⟩
  subst hm
  simp only [decide_true, Bool.true_and] at HR
  cases E3 with
  | false =>
    go_enter Tryd.func44, Tryd.ntmps44
    go_wp2_with fail
    go_ret
    exact ⟨ret_bool HR.out, HB0.out⟩
  | true =>
  simp only [Bool.true_and] at HR
  by_cases d0 : cm = 0
  rotate_left
  · have d1 : ((cm : Int) == 0) = false := by simpa using d0
    have d2 : ((cm : Int) != 0) = true := by simpa using d0
    have HF : Hid (false = R) := Lib.hid (by rw [← HR.out, d1]; rfl)
    clear d0
    go_enter Tryd.func44, Tryd.ntmps44
    go_wp2_with fail
    go_ret
    exact ⟨ret_bool HF.out, HB0.out⟩
  subst d0
  rw [show ((0 : Int) == 0) = true from rfl, Bool.true_and] at HR
  cases E5 with
  | false =>
    go_enter Tryd.func44, Tryd.ntmps44
    go_wp2_with fail
    go_ret
    exact ⟨ret_bool HR.out, HB0.out⟩
  | true =>
  simp only [Bool.true_and] at HR
  by_cases d0 : nu = 0
  rotate_left
  · have d1 : ((nu : Int) == 0) = false := by simpa using d0
    have d2 : ((nu : Int) != 0) = true := by simpa using d0
    have HF : Hid (false = R) := Lib.hid (by rw [← HR.out, d1]; rfl)
    clear d0
    go_enter Tryd.func44, Tryd.ntmps44
    go_wp2_with fail
    go_ret
    exact ⟨ret_bool HF.out, HB0.out⟩
  subst d0
  rw [show ((0 : Int) == 0) = true from rfl, Bool.true_and] at HR
  by_cases o1 : op = 0 ∨ op = 1
  · rw [if_pos o1] at HR
    by_cases l2 : 2 ≤ n
    · rw [decide_eq_true l2, Bool.true_and] at HR
      have i1 : (2 : Int) ≤ (n : Int) := by omega
      clear l2
      rcases o1 with rfl | rfl
      all_goals
        go_enter Tryd.func44, Tryd.ntmps44
        go_wp2_with fail
        (with_reducible refine HCA.out.mono ?_)
        rintro e w2 ⟨rfl, hb2⟩
        go_wp2_with fail
        go_ret
        exact ⟨ret_bool HR.out, HB0.out.trans (hb2.mono HB0.out.size)⟩
    · rw [decide_eq_false l2, Bool.false_and] at HR
      have i1 : (n : Int) < 2 := by omega
      clear l2
      rcases o1 with rfl | rfl
      all_goals
        go_enter Tryd.func44, Tryd.ntmps44
        go_wp2_with fail
        go_ret
        exact ⟨ret_bool HR.out, HB0.out⟩
  rw [if_neg o1] at HR
  by_cases o2 : op = 2
  · subst o2
    rw [if_pos rfl] at HR
    clear o1
    by_cases l2 : n = 1
    · subst l2
      rw [decide_eq_true rfl, Bool.true_and] at HR
      go_enter Tryd.func44, Tryd.ntmps44
      go_wp2_with fail
      (with_reducible refine HCA.out.mono ?_)
      rintro e w2 ⟨rfl, hb2⟩
      go_wp2_with fail
      go_ret
      exact ⟨ret_bool HR.out, HB0.out.trans (hb2.mono HB0.out.size)⟩
    · rw [decide_eq_false l2, Bool.false_and] at HR
      have i1 : ((n : Int) != 1) = true := by simp; omega
      have i2 : ((n : Int) == 1) = false := by simp; omega
      clear l2
      go_enter Tryd.func44, Tryd.ntmps44
      go_wp2_with fail
      go_ret
      exact ⟨ret_bool HR.out, HB0.out⟩
  rw [if_neg o2, Bool.false_and] at HR
  have t0 : ((op : Int) == 0) = false := by simp; omega
  have t1 : ((op : Int) == 1) = false := by simp; omega
  have t2 : ((op : Int) == 2) = false := by simp; omega
  clear o1 o2
  go_enter Tryd.func44, Tryd.ntmps44
  go_wp2_with fail
  go_ret
  exact ⟨ret_bool HR.out, HB0.out⟩
theorem goodX_all : ∀ f, GoodX f
  | 0 => fun _ _ _ _ h => h.elim
  | f + 1 => fun x cs W hE h => by
    by_cases hop : x.op = 3
    · exact goodSome_any (goodX_all f) x cs W hE h hop
    · exact goodElse_any (goodX_all f) x cs W hE h hop
end Go.Proofs.YtklpihaelaagpaaDoor
