/-
  gimletlaw12.union: the numbers that one of two rows has.
-/
import Derived.Test.YtekoflcioooncaaDoorMtA
import Derived.Test.YtekoflcioooncaaDoorMcY
import Derived.BigQuiet
import Derived.Test.YtekoflcioooncaaDoorMcZ
import Derived.Test.YtekoflcioooncaaDoorMcQ
import Derived.Deep.RegionHeld3
namespace Go.Proofs.YtekoflcioooncaaDoor
open Go.RowKit

theorem app_next {w wq w7 : World} {o : List Int} {on : Nat} {v v7 : Value} {x : Int} {ob : Obj} (hl : o.length = on) (hB : Below w.heap.size w wq) (ho : wq.ownsRow w.heap.size 3 1 v on (o.map (Value.int .i64))) (h7 : w7.ownsRow w.heap.size 3 1 v7 (on + 1) (o.map (Value.int .i64) ++ [.int .i64 x])) (ha : App (wq.alloc ob) w7 v v7) :
    Hid (Below w.heap.size w w7 ∧ w7.ownsRow w.heap.size 3 1 v7 (o ++ [x]).length ((o ++ [x]).map (Value.int .i64))) := by
  refine Lib.hid ⟨(hB.alloc hB.size _).trans (ha.below (by have := hB.size; simp; omega) (fun j hj' => (ho.lt j hj').1)), ?_⟩
  rw [List.length_append, List.length_singleton, hl, List.map_append]
  exact h7
set_option maxRecDepth 100000 in
set_option maxHeartbeats 8000000 in
theorem union_any (a0 b0 : Option Addr) (n m ca cb : Nat) (la lb : List Int) (w : World) (h1 : IntsAt w a0 n la) (h2 : IntsAt w b0 m lb) (hn : n ≤ 1048576) (hm : m ≤ 1048576) (hca : n ≤ ca) :
    Calls Tryd.prog 22 #[.slice a0 n ca, .slice b0 m cb] w fun e w' => ∃ A c, e = .returned (.slice A (unionL la lb).length c) ∧ (unionL la lb).length ≤ c ∧ IntsAt w' A (unionL la lb).length (unionL la lb) ∧ Below w.heap.size w w' := by
  obtain ⟨j0, hj, hjz0, hjz1, hjz2⟩ := info_parts infoInt
  have HLA : Hid (la.length = n ∧ lb.length = m) := Lib.hid ⟨h1.len.symm, h2.len.symm⟩
  have H1 := Lib.hid h1.at'
  have H2 := Lib.hid h2.at'
  obtain ⟨U, hU⟩ : ∃ U, unionL la lb = U := ⟨_, rfl⟩
  rw [hU]
  have HU := Lib.hid hU
  clear h1 h2 hU
  go_enter Tryd.func22, Tryd.ntmps22
  go_wp2_with fail
  go_loopw [5, 6, 7] (fun ov iv kv wr => ∃ (i k : Nat) (o : List Int), iv = .int .i64 i ∧ kv = .int .i64 k ∧ i ≤ n ∧ k ≤ m ∧ Hid (o ++ unionL (la.drop i) (lb.drop k) = U ∧ o.length ≤ i + k ∧ Below w.heap.size w wr ∧ wr.ownsRow w.heap.size 3 1 ov o.length (o.map (Value.int .i64)))) (fun _ _ kv _ => m - (intOf kv).toNat)
  case atStart => exact ⟨0, 0, [], rfl, rfl, Nat.zero_le _, Nat.zero_le _, Lib.hid ⟨by rw [List.drop_zero, List.drop_zero]; exact HU.out, Nat.zero_le _, Below.refl _ _, World.ownsRow_nil _ _ _ _⟩⟩
  case round =>
    obtain ⟨i0, k, o0, rfl, rfl, hi0, hk, HJ0⟩ := hrel
    obtain ⟨oa0, oc0, rfl, _, _, _⟩ := own_slice HJ0.out.2.2.2
    obtain ⟨on0, hon0⟩ : ∃ on, o0.length = on := ⟨_, rfl⟩
    rw [hon0] at HJ0 ⊢
    have HON0 := Lib.hid hon0
    clear hon0
    have k1 : (0 : Int) ≤ (k : Int) := by omega
    have ewk : IntKind.i64.wrap ((k : Int) + 1) = (k : Int) + 1 := IntWalk.i64_in _ (by omega)
    by_cases hkm : k < m
    · have k2 : (k : Int) < (m : Int) := by omega
      have hkl : k < lb.length := by rw [HLA.out.2]; exact hkm
      obtain ⟨b2, o2, rfl, hb2, hc2⟩ := H2.out k hkl
      have HC2 : Hid (∀ W, Below w.heap.size w W → W.cell? ⟨b2, o2 + k, none⟩ = some (.int .i64 lb[k])) := Lib.hid fun W hW => (hW.cell (p := ⟨b2, o2 + k, none⟩) hb2).trans hc2
      have HDK : Hid (lb.drop k = lb[k] :: lb.drop (k + 1)) := Lib.hid (List.drop_eq_getElem_cons hkl)
      generalize lb[k] = y at *
      clear hc2 hb2
      go_wp2_with fail
      go_loopw [5, 6] (fun ov iv wr => ∃ (i : Nat) (o : List Int), iv = .int .i64 i ∧ i ≤ n ∧ Hid (o ++ unionL (la.drop i) (lb.drop k) = U ∧ o.length ≤ i + k ∧ Below w.heap.size w wr ∧ wr.ownsRow w.heap.size 3 1 ov o.length (o.map (Value.int .i64)))) (fun _ iv _ => n - (intOf iv).toNat)
      case atStart => exact ⟨i0, o0, rfl, hi0, Lib.hid (by rw [HON0.out]; exact HJ0.out)⟩
      case round =>
        obtain ⟨i, o, rfl, hi, HJ⟩ := hrel
        obtain ⟨oa, oc, rfl, _, _, _⟩ := own_slice HJ.out.2.2.2
        obtain ⟨on, hon⟩ : ∃ on, o.length = on := ⟨_, rfl⟩
        have honl : on ≤ 3000000 := by have := HJ.out.2.1; omega
        rw [hon] at HJ ⊢
        have HON := Lib.hid hon
        clear hon HJ0 HON0
        have i1 : (0 : Int) ≤ (i : Int) := by omega
        have ewi : IntKind.i64.wrap ((i : Int) + 1) = (i : Int) + 1 := IntWalk.i64_in _ (by omega)
        have c2 := HC2.out _ HJ.out.2.2.1
        have c2d := HC2.out _ (HJ.out.2.2.1.drew)
        by_cases hin : i < n
        · have i2 : (i : Int) < (n : Int) := by omega
          have hil : i < la.length := by rw [HLA.out.1]; exact hin
          obtain ⟨b1, o1, rfl, hb1, hc1⟩ := H1.out i hil
          have HC1 : Hid (∀ W, Below w.heap.size w W → W.cell? ⟨b1, o1 + i, none⟩ = some (.int .i64 la[i])) := Lib.hid fun W hW => (hW.cell (p := ⟨b1, o1 + i, none⟩) hb1).trans hc1
          have HDI : Hid (la.drop i = la[i] :: la.drop (i + 1)) := Lib.hid (List.drop_eq_getElem_cons hil)
          generalize la[i] = x at *
          clear hc1 hb1
          have c1 := HC1.out _ HJ.out.2.2.1
          have c1d := HC1.out _ (HJ.out.2.2.1.drew)
          have HBD := Lib.hid (HJ.out.2.2.1.drew)
          rcases Int.lt_trichotomy x y with hxy | hxy | hxy
          · have hd : decide (x < y) = true := decide_eq_true hxy
            have HNX : Hid ((o ++ [x]) ++ unionL (la.drop (i + 1)) (lb.drop k) = U) := Lib.hid (by
              rw [← HJ.out.1, HDI.out, HDK.out, unionL_lt hxy]; simp)
            go_wp2_with fail
            go_quiet (fail)
            have HBQ := Lib.hid (Below.drewN HJ.out.2.2.1 nq)
            have HOQ : Hid ((wr.drewN nq).ownsRow w.heap.size 3 1 (.slice oa on oc) on (o.map (Value.int .i64))) := Lib.hid HJ.out.2.2.2
            have q1 := HC1.out _ HBQ.out
            generalize wr.drewN nq = wq at *
            go_wp2_with (at_builtin; go_must ((refine wpList_app wq (by rfl) _ _ 36 (by rfl) w.heap.size 3 j0 (.int .i64 0) 1 8 Tryd.underlying36 hj hjz0 hjz1 hjz2 (by rfl) (by decide) (.slice oa on oc) on _ (by rfl) HOQ.out _ rfl 1 [.int .i64 x] (by rfl) (by rfl) (by intro u hu; simp only [List.mem_cons, List.not_mem_nil, or_false] at hu; subst hu; rfl) (by omega) (by decide) HBQ.out.size (fun v7 w7 hown7 hap7 => ?_))))
            have HN8 := app_next HON.out HBQ.out HOQ.out hown7 hap7
            clear hown7 hap7
            go_wp2_with fail
            go_roundw
            case rel => exact ⟨i + 1, o ++ [x], by go_num, by omega, Lib.hid ⟨HNX.out, by rw [List.length_append, HON.out]; have := HJ.out.2.1; simp; omega, HN8.out.1, HN8.out.2⟩⟩
            case measure => simp [intOf]; omega
          · have hd : decide (x < y) = false := decide_eq_false (by omega)
            have hd2 : decide (x = y) = true := decide_eq_true hxy
            have HNX : Hid ((o ++ [y]) ++ unionL (la.drop (i + 1)) (lb.drop (k + 1)) = U) := Lib.hid (by
              rw [← HJ.out.1, HDI.out, HDK.out, hxy, unionL_eq]; simp)
            go_wp2_with fail
            go_quiet (fail)
            have HBQ := Lib.hid (Below.drewN HJ.out.2.2.1 nq)
            have HOQ : Hid ((wr.drewN nq).ownsRow w.heap.size 3 1 (.slice oa on oc) on (o.map (Value.int .i64))) := Lib.hid HJ.out.2.2.2
            have q1 := HC1.out _ HBQ.out
            have q2 := HC2.out _ HBQ.out
            generalize wr.drewN nq = wq1 at *
            go_wp2_with fail
            go_quiet (fail)
            have HBQ := Lib.hid (Below.drewN HBQ.out nq)
            have HOQ : Hid ((wq1.drewN nq).ownsRow w.heap.size 3 1 (.slice oa on oc) on (o.map (Value.int .i64))) := Lib.hid HOQ.out
            have q2 := HC2.out _ HBQ.out
            generalize wq1.drewN nq = wq at *
            go_wp2_with (at_builtin; go_must ((refine wpList_app wq (by rfl) _ _ 36 (by rfl) w.heap.size 3 j0 (.int .i64 0) 1 8 Tryd.underlying36 hj hjz0 hjz1 hjz2 (by rfl) (by decide) (.slice oa on oc) on _ (by rfl) HOQ.out _ rfl 1 [.int .i64 y] (by rfl) (by rfl) (by intro u hu; simp only [List.mem_cons, List.not_mem_nil, or_false] at hu; subst hu; rfl) (by omega) (by decide) HBQ.out.size (fun v7 w7 hown7 hap7 => ?_))))
            have HN8 := app_next HON.out HBQ.out HOQ.out hown7 hap7
            clear hown7 hap7
            go_wp2_with fail
            go_roundw
            case rel => exact ⟨i + 1, k + 1, o ++ [y], by go_num, by go_num, by omega, by omega, Lib.hid ⟨HNX.out, by rw [List.length_append, HON.out]; have := HJ.out.2.1; simp; omega, HN8.out.1, HN8.out.2⟩⟩
            case measure => simp [intOf]; omega
          · have hd : decide (x < y) = false := decide_eq_false (by omega)
            have hd2 : (x == y) = false := by simp; omega
            have HNX : Hid ((o ++ [y]) ++ unionL (la.drop i) (lb.drop (k + 1)) = U) := Lib.hid (by
              rw [← HJ.out.1, HDI.out, HDK.out, unionL_gt hxy]; simp)
            go_wp2_with fail
            go_quiet (fail)
            have HBQ := Lib.hid (Below.drewN HJ.out.2.2.1 nq)
            have HOQ : Hid ((wr.drewN nq).ownsRow w.heap.size 3 1 (.slice oa on oc) on (o.map (Value.int .i64))) := Lib.hid HJ.out.2.2.2
            have q1 := HC1.out _ HBQ.out
            have q2 := HC2.out _ HBQ.out
            generalize wr.drewN nq = wq1 at *
            go_wp2_with fail
            go_quiet (fail)
            have HBQ := Lib.hid (Below.drewN HBQ.out nq)
            have HOQ : Hid ((wq1.drewN nq).ownsRow w.heap.size 3 1 (.slice oa on oc) on (o.map (Value.int .i64))) := Lib.hid HOQ.out
            have q2 := HC2.out _ HBQ.out
            generalize wq1.drewN nq = wq at *
            go_wp2_with (at_builtin; go_must ((refine wpList_app wq (by rfl) _ _ 36 (by rfl) w.heap.size 3 j0 (.int .i64 0) 1 8 Tryd.underlying36 hj hjz0 hjz1 hjz2 (by rfl) (by decide) (.slice oa on oc) on _ (by rfl) HOQ.out _ rfl 1 [.int .i64 y] (by rfl) (by rfl) (by intro u hu; simp only [List.mem_cons, List.not_mem_nil, or_false] at hu; subst hu; rfl) (by omega) (by decide) HBQ.out.size (fun v7 w7 hown7 hap7 => ?_))))
            have HN8 := app_next HON.out HBQ.out HOQ.out hown7 hap7
            clear hown7 hap7
            go_wp2_with fail
            go_roundw
            case rel => exact ⟨i, k + 1, o ++ [y], by go_num, by go_num, by omega, by omega, Lib.hid ⟨HNX.out, by rw [List.length_append, HON.out]; have := HJ.out.2.1; simp; omega, HN8.out.1, HN8.out.2⟩⟩
            case measure => simp [intOf]; omega
        · have i4 : (n : Int) ≤ (i : Int) := by omega
          have hnl : ¬ ((i : Int) < (n : Int)) := by omega
          have HNX : Hid ((o ++ [y]) ++ unionL (la.drop i) (lb.drop (k + 1)) = U) := Lib.hid (by
            rw [← HJ.out.1, HDK.out, List.drop_of_length_le (by rw [HLA.out.1]; omega), unionL_nilcons]; simp)
          go_wp2_with fail
          go_quiet (fail)
          have HBQ := Lib.hid (Below.drewN HJ.out.2.2.1 nq)
          have HOQ : Hid ((wr.drewN nq).ownsRow w.heap.size 3 1 (.slice oa on oc) on (o.map (Value.int .i64))) := Lib.hid HJ.out.2.2.2
          generalize wr.drewN nq = wq1 at *
          go_wp2_with fail
          go_quiet (fail)
          have HBQ := Lib.hid (Below.drewN HBQ.out nq)
          have HOQ : Hid ((wq1.drewN nq).ownsRow w.heap.size 3 1 (.slice oa on oc) on (o.map (Value.int .i64))) := Lib.hid HOQ.out
          have q2 := HC2.out _ HBQ.out
          generalize wq1.drewN nq = wq at *
          go_wp2_with (at_builtin; go_must ((refine wpList_app wq (by rfl) _ _ 36 (by rfl) w.heap.size 3 j0 (.int .i64 0) 1 8 Tryd.underlying36 hj hjz0 hjz1 hjz2 (by rfl) (by decide) (.slice oa on oc) on _ (by rfl) HOQ.out _ rfl 1 [.int .i64 y] (by rfl) (by rfl) (by intro u hu; simp only [List.mem_cons, List.not_mem_nil, or_false] at hu; subst hu; rfl) (by omega) (by decide) HBQ.out.size (fun v7 w7 hown7 hap7 => ?_))))
          have HN8 := app_next HON.out HBQ.out HOQ.out hown7 hap7
          clear hown7 hap7
          go_wp2_with fail
          go_roundw
          case rel => exact ⟨i, k + 1, o ++ [y], by go_num, by go_num, by omega, by omega, Lib.hid ⟨HNX.out, by rw [List.length_append, HON.out]; have := HJ.out.2.1; simp; omega, HN8.out.1, HN8.out.2⟩⟩
          case measure => simp [intOf]; omega
    · have hk2 : k = m := by omega
      subst hk2
      have m1 : (k : Int) ≤ (k : Int) := by omega
      have HUU : Hid (o0 ++ la.drop i0 = U) := Lib.hid (by
        have := HJ0.out.1
        rw [List.drop_of_length_le (l := lb) (by rw [HLA.out.2]; exact Nat.le_refl _), unionL_nil] at this
        exact this)
      have HJO := HJ0.out.2.2.2
      have honl : on0 ≤ 3000000 := by have := HJ0.out.2.1; omega
      have s1 : (i0 : Int) ≤ (n : Int) := by omega
      have s2 : ((n : Int) - (i0 : Int)).toNat = n - i0 := by omega
      have s3 : (0 : Int) ≤ (i0 : Int) := by omega
      have s4 : ((i0 : Int)).toNat = i0 := by omega
      have HFIN : Hid (∀ v7 w7, w7.ownsRow w.heap.size 3 1 v7 (on0 + (n - i0)) (o0.map (Value.int .i64) ++ (la.drop i0).map (Value.int .i64)) → App wr w7 (.slice oa0 on0 oc0) v7 → ∃ A c, v7 = .slice A U.length c ∧ U.length ≤ c ∧ IntsAt w7 A U.length U ∧ Below w.heap.size w w7) := Lib.hid fun v7 w7 ho ha => by
        have e : on0 + (n - i0) = U.length := by rw [← HUU.out, List.length_append, List.length_drop, HON0.out, HLA.out.1]
        rw [← List.map_append, HUU.out, e] at ho
        obtain ⟨A, c, e2, h3, h4⟩ := own_ints ho
        exact ⟨A, c, e2, h3, h4, HJ0.out.2.2.1.trans (ha.below HJ0.out.2.2.1.size (fun j hj' => (HJO.lt j hj').1))⟩
      rcases Nat.lt_or_ge i0 n with hin | hin
      · have hil : i0 < la.length := by rw [HLA.out.1]; exact hin
        obtain ⟨b1, o1, rfl, hb1, hc1⟩ := H1.out i0 hil
        have hne : ¬ (i0 = ca) := by omega
        have hlt : i0 < ca := by omega
        have HNL : Hid (((la.drop i0).map (Value.int .i64)).length = (n - i0) * 1) := Lib.hid (by rw [List.length_map, List.length_drop, HLA.out.1, Nat.mul_one])
        have HNC : Hid (∀ ad, some (⟨b1, o1 + i0, none⟩ : Addr) = some ad → ∀ j u, ((la.drop i0).map (Value.int .i64))[j]? = some u → wr.cell? (ad.add j) = some u) := Lib.hid (by
          intro ad he j u hu
          cases he
          rw [List.getElem?_map, List.getElem?_drop] at hu
          cases hg : la[i0 + j]? with
          | none => rw [hg] at hu; cases hu
          | some z =>
            rw [hg] at hu
            obtain rfl : Value.int .i64 z = u := by simpa using hu
            obtain ⟨hl, hz⟩ := List.getElem?_eq_some_iff.1 hg
            obtain ⟨b9, o9, e9, h91, h92⟩ := H1.out (i0 + j) hl
            cases e9
            have h93 := (HJ0.out.2.2.1.cell (p := ⟨b1, o1 + (i0 + j), none⟩) h91).trans h92
            unfold Addr.add
            split
            · rename_i h0; subst h0; rw [← hz]; exact h93
            · rw [← hz, Nat.add_assoc]; exact h93)
        have HONE : Hid (∀ u ∈ (la.drop i0).map (Value.int .i64), u.oneCell' = true) := Lib.hid (by
          intro u hu
          obtain ⟨z, _, rfl⟩ := List.mem_map.1 hu
          rfl)
        clear hc1 hb1 hil
        go_wp2_with (at_builtin; go_must ((refine wpList_app_row wr (by rfl) _ _ 36 (by rfl) w.heap.size 3 j0 (.int .i64 0) 1 8 Tryd.underlying36 hj hjz0 hjz1 hjz2 (by rfl) (by decide) (.slice oa0 on0 oc0) on0 _ (by rfl) HJO (some ⟨b1, o1 + i0, none⟩) (n - i0) (ca - i0) ((la.drop i0).map (Value.int .i64)) (by rfl) HNL.out HNC.out (fun h => by cases h) HONE.out (by omega) (by decide) HJ0.out.2.2.1.size (fun v7 w7 hown7 hap7 => ?_))))
        have HEND := Lib.hid (HFIN.out v7 w7 hown7 hap7)
        clear hown7 hap7
        go_wp2_with fail
        go_ret
        obtain ⟨A, c, e2, h3, h4, h5⟩ := HEND.out
        exact ⟨A, c, by rw [← e2]; rfl, h3, h4, h5⟩
      · have hin2 : i0 = n := by omega
        subst hin2
        have HEQ : Hid ((la.drop i0).map (Value.int .i64) = []) := Lib.hid (by rw [List.drop_of_length_le (by rw [HLA.out.1]; exact Nat.le_refl _)]; rfl)
        have hs0 : i0 - i0 = 0 := Nat.sub_self _
        by_cases hcc : i0 = ca
        · subst hcc
          cases a0 with
          | none =>
            go_wp2_with (at_builtin; go_must ((refine wpList_app_row wr (by rfl) _ _ 36 (by rfl) w.heap.size 3 j0 (.int .i64 0) 1 8 Tryd.underlying36 hj hjz0 hjz1 hjz2 (by rfl) (by decide) (.slice oa0 on0 oc0) on0 _ (by rfl) HJO _ _ _ [] (by rfl) (by rfl) (fun ad _ j u hu => by simp at hu) (fun _ => rfl) (fun u hu => by cases hu) (by omega) (by decide) HJ0.out.2.2.1.size (fun v7 w7 hown7 hap7 => ?_))))
            have HEND := Lib.hid (HFIN.out v7 w7 (by rw [hs0, HEQ.out]; exact hown7) hap7)
            clear hown7 hap7
            go_wp2_with fail
            go_ret
            obtain ⟨A, c, e2, h3, h4, h5⟩ := HEND.out
            exact ⟨A, c, by rw [← e2]; rfl, h3, h4, h5⟩
          | some ad =>
            go_wp2_with (at_builtin; go_must ((refine wpList_app_row wr (by rfl) _ _ 36 (by rfl) w.heap.size 3 j0 (.int .i64 0) 1 8 Tryd.underlying36 hj hjz0 hjz1 hjz2 (by rfl) (by decide) (.slice oa0 on0 oc0) on0 _ (by rfl) HJO _ _ _ [] (by rfl) (by rfl) (fun ad _ j u hu => by simp at hu) (fun _ => rfl) (fun u hu => by cases hu) (by omega) (by decide) HJ0.out.2.2.1.size (fun v7 w7 hown7 hap7 => ?_))))
            have HEND := Lib.hid (HFIN.out v7 w7 (by rw [hs0, HEQ.out]; exact hown7) hap7)
            clear hown7 hap7
            go_wp2_with fail
            go_ret
            obtain ⟨A, c, e2, h3, h4, h5⟩ := HEND.out
            exact ⟨A, c, by rw [← e2]; rfl, h3, h4, h5⟩
        · have hlt : i0 < ca := by omega
          cases a0 with
          | none =>
            go_wp2_with (at_builtin; go_must ((refine wpList_app_row wr (by rfl) _ _ 36 (by rfl) w.heap.size 3 j0 (.int .i64 0) 1 8 Tryd.underlying36 hj hjz0 hjz1 hjz2 (by rfl) (by decide) (.slice oa0 on0 oc0) on0 _ (by rfl) HJO _ _ _ [] (by rfl) (by rfl) (fun ad _ j u hu => by simp at hu) (fun _ => rfl) (fun u hu => by cases hu) (by omega) (by decide) HJ0.out.2.2.1.size (fun v7 w7 hown7 hap7 => ?_))))
            have HEND := Lib.hid (HFIN.out v7 w7 (by rw [hs0, HEQ.out]; exact hown7) hap7)
            clear hown7 hap7
            go_wp2_with fail
            go_ret
            obtain ⟨A, c, e2, h3, h4, h5⟩ := HEND.out
            exact ⟨A, c, by rw [← e2]; rfl, h3, h4, h5⟩
          | some ad =>
            go_wp2_with (at_builtin; go_must ((refine wpList_app_row wr (by rfl) _ _ 36 (by rfl) w.heap.size 3 j0 (.int .i64 0) 1 8 Tryd.underlying36 hj hjz0 hjz1 hjz2 (by rfl) (by decide) (.slice oa0 on0 oc0) on0 _ (by rfl) HJO _ _ _ [] (by rfl) (by rfl) (fun ad _ j u hu => by simp at hu) (fun _ => rfl) (fun u hu => by cases hu) (by omega) (by decide) HJ0.out.2.2.1.size (fun v7 w7 hown7 hap7 => ?_))))
            have HEND := Lib.hid (HFIN.out v7 w7 (by rw [hs0, HEQ.out]; exact hown7) hap7)
            clear hown7 hap7
            go_wp2_with fail
            go_ret
            obtain ⟨A, c, e2, h3, h4, h5⟩ := HEND.out
            exact ⟨A, c, by rw [← e2]; rfl, h3, h4, h5⟩
end Go.Proofs.YtekoflcioooncaaDoor

/-
  mean.From: what it gives is new memory.
-/
namespace Go.Proofs.YtekoflcioooncaaDoor
open Go.RowKit

theorem own_ints2 {w : World} {base n : Nat} {e : TypeId} {v : Value} {l : List Int} (h : w.ownsRow base e 1 v n (l.map (Value.int .i64))) : ∃ a c, v = .slice a n c ∧ n ≤ c ∧ IntsAt w a n l ∧ ∀ ad, a = some ad → base ≤ ad.block := by
  obtain ⟨a, c, rfl, h1, h2⟩ := own_ints h
  refine ⟨a, c, rfl, h1, h2, fun ad hd => ?_⟩
  obtain ⟨a', c', e2, _, _, h3⟩ := own_slice h
  cases e2
  obtain ⟨g, rfl, hg, _⟩ := h3 ad hd
  exact hg
theorem IntsAt.far {w : World} {a : Option Addr} {n : Nat} {l : List Int} (h : IntsAt w a n l) {P j : Nat} (hne : ∀ ad, a = some ad → ad.block ≠ P) (v : Value) : IntsAt (w.setCell ⟨P, j, none⟩ v) a n l :=
  ⟨h.len, fun i hi => by
    obtain ⟨b, o, e, hlt, hc⟩ := h.at' i hi
    refine ⟨b, o, e, by rw [show (w.setCell ⟨P, j, none⟩ v).heap.size = w.heap.size by simp [World.setCell]]; exact hlt, ?_⟩
    rw [← hc]
    unfold World.cell?
    rw [Below.heap_setCell _ _ _ _ (show b ≠ P from hne _ e)]⟩
set_option maxRecDepth 100000 in
set_option maxHeartbeats 8000000 in
theorem from_new {f : Nat} (hf : f ≤ 1048576) {tb : Nat} {evs : List Ev} (HST : StepX tb evs f) (v : Int) (a : Option Addr) (c : Nat) (ss : List PS) (w : World) (hq : TQ w tb evs) (hE : EnvT w) (h : SsAt f w a ss) (hml : ss.length ≤ 1048576) :
    Calls Tryd.prog 18 #[.pointer (some ⟨tb, 0, none⟩), .int .i64 v, .agg #[.slice a ss.length c]] w fun e w' => ∃ A cc, e = .returned (.tuple #[.slice A (fromN (treePT evs) f v ss).length cc, .int .i64 (refusesN (nodesB evs).length f v ss)]) ∧ (fromN (treePT evs) f v ss).length ≤ cc ∧ IntsAt w' A (fromN (treePT evs) f v ss).length (fromN (treePT evs) f v ss) ∧ (∀ ad, A = some ad → w.heap.size ≤ ad.block) ∧ Below w.heap.size w w' := by
  obtain ⟨i0, hi0, hz0, hz1, hz2⟩ := info_parts infoBool
  obtain ⟨j0, hj, hjz0, hjz1, hjz2⟩ := info_parts infoInt
  obtain ⟨W0, hW0⟩ : ∃ W0, W0 = w.alloc (.cells #[.slice a ss.length c] 25) := ⟨_, rfl⟩
  have hb0 : Below w.heap.size w W0 := by rw [hW0]; exact (Below.refl _ _).alloc (Nat.le_refl _) _
  have hsz0 : W0.heap.size = w.heap.size + 1 := by rw [hW0]; simp
  have hk5 : W0.heap[w.heap.size]? = some (.cells #[.slice a ss.length c] 25 (0, 0)) := by rw [hW0]; exact heap_alloc_new w _
  have HKS : Hid (∀ W, Below (w.heap.size + 1) W0 W → W.cell? ⟨w.heap.size, 0, none⟩ = some (.slice a ss.length c)) := Lib.hid fun W hW => by
    rw [cell_heap ((hW.block w.heap.size (by omega)).trans hk5)]; rfl
  have HW0 : Hid (Below w.heap.size w W0 ∧ W0.heap.size = w.heap.size + 1) := Lib.hid ⟨hb0, hsz0⟩
  have HRF := Lib.hid (refuses_any hf v a c ss W0 (hq.below hb0) (hE.below hb0) (SsAt.below h hb0) hml)
  by_cases hr : refusesN (nodesB evs).length f v ss = 0
  rotate_left
  · have e0 : fromN (treePT evs) f v ss = [] := if_neg hr
    rw [e0]
    have hr' : (refusesN (nodesB evs).length f v ss != 0) = true := by simp [hr]
    have hr'' : (refusesN (nodesB evs).length f v ss == 0) = false := by simp [hr]
    generalize refusesN (nodesB evs).length f v ss = rf at *
    clear hb0 hsz0 hk5 hq hE h hr e0
    have HW0E := Lib.hid hW0
    clear hW0
    generalize ss.length = m at *
    go_enter Tryd.func18, Tryd.ntmps18
    go_wp2_with fail
    rw [← HW0E.out]
    have c5 := HKS.out W0 (Below.refl _ _)
    (with_reducible refine HRF.out.mono ?_)
    rintro e w2 ⟨rfl, hb2⟩
    have HB2 := Lib.hid (HW0.out.1.trans (hb2.mono HW0.out.1.size))
    clear hb2
    go_wp2_with fail
    go_ret2
    exact ⟨none, 0, rfl, Nat.le_refl _, ⟨rfl, fun i hi => absurd hi (Nat.not_lt_zero _)⟩, (fun ad h => by cases h), HB2.out⟩
  · have hfn : fromN (treePT evs) f v ss = fromP (treePT evs) f v ss := if_pos hr
    rw [hfn, hr]
    rw [hr] at HRF
    have hvv : -1 ≤ v ∧ v < ((nodesB evs).length : Int) := by
      unfold refusesN at hr
      split at hr
      · cases hr
      · omega
    have hck : checkN f ss = 0 := by
      unfold refusesN at hr
      rw [if_neg (by omega)] at hr
      exact hr
    have hgd := goodPB_wher (checkN_good hck)
    have HLEN : Hid (∀ W, Below w.heap.size w W → Calls Tryd.prog 12 #[.pointer (some ⟨tb, 0, none⟩)] W fun e w' => e = .returned (.int .i64 ((nodesB evs).length : Nat)) ∧ w' = W) := Lib.hid fun W hW => by
      obtain ⟨⟨B, ht⟩, hwh, _⟩ := hq.below hW
      exact len_any (treeLast ht hwh)
    have HSX : Hid (∀ (g n : Nat) (W : World), Below w.heap.size w W → n = (nodesB evs).length + 1 → RowB W g (oneP (nodesB evs).length v) → Calls Tryd.prog 35 #[.agg #[.pointer (some ⟨tb, 0, none⟩)], .slice (some ⟨g, 0, none⟩) n n, .slice a ss.length c] W fun e w' => ∃ g', e = .returned (.slice (some ⟨g', 0, none⟩) n n) ∧ RowB w' g' (stepsP (holdP (treePT evs) f) (treePT evs) (oneP (nodesB evs).length v) ss) ∧ Below W.heap.size W w') := Lib.hid fun g n W hW hn hr =>
      HST g n c a _ ss W (hq.below hW) hn (by rw [oneP_len]; exact hn.symm) hr (SsAt.below h hW) hml hgd
    have HONE := Lib.hid (oneP_set (nodesB evs).length v hvv.1)
    have hN : (nodesB evs).length ≤ 1024 := hq.len
    have HFL : Hid ((stepsP (holdP (treePT evs) f) (treePT evs) (oneP (nodesB evs).length v) ss).length = (nodesB evs).length + 1) := Lib.hid (by rw [stepsP_len, oneP_len])
    have HFP : Hid (fromP (treePT evs) f v ss = trueTo (stepsP (holdP (treePT evs) f) (treePT evs) (oneP (nodesB evs).length v) ss) ((nodesB evs).length + 1)) := Lib.hid (by rw [← HFL.out]; rfl)
    generalize stepsP (holdP (treePT evs) f) (treePT evs) (oneP (nodesB evs).length v) ss = fr at *
    obtain ⟨R, hR⟩ : ∃ R, fromP (treePT evs) f v ss = R := ⟨_, rfl⟩
    rw [hR]
    rw [hR] at HFP
    clear hR hfn hck hgd hr
    generalize hNN : (nodesB evs).length = N at *
    obtain ⟨n, hn⟩ : ∃ n, n = N + 1 := ⟨_, rfl⟩
    rw [← hn] at HFP
    have HNE := Lib.hid hn
    have ewN : IntKind.i64.wrap ((N : Int) + 1) = ((n : Nat) : Int) := by rw [IntWalk.i64_in _ (by omega)]; omega
    have ewv : IntKind.i64.wrap (v + 1) = v + 1 := IntWalk.i64_in _ (by omega)
    have hn2 : n ≤ 1025 := by omega
    have v1 : (0 : Int) ≤ v + 1 := by omega
    have v2 : v + 1 < (n : Int) := by omega
    have HV := Lib.hid (show (v + 1).toNat < n by omega)
    have HFN : Hid (fr.length = n) := Lib.hid (by rw [HFL.out, HNE.out])
    clear hb0 hsz0 hk5 hq hE h hn hvv hNN
    have HW0E := Lib.hid hW0
    clear hW0
    generalize ss.length = m at *
    go_enter Tryd.func18, Tryd.ntmps18
    go_wp2_with fail
    rw [← HW0E.out]
    have c5 := HKS.out W0 (Below.refl _ _)
    (with_reducible refine HRF.out.mono ?_)
    rintro e w1 ⟨rfl, hb1⟩
    have HLN := Lib.hid (HLEN.out w1 (HW0.out.1.trans (hb1.mono HW0.out.1.size)))
    have HB1 := Lib.hid hb1
    clear hb1
    go_wp2_with fail
    (with_reducible refine HLN.out.mono ?_)
    rintro e w2 ⟨rfl, rfl⟩
    have HSZ2 : Hid (w.heap.size + 1 ≤ w2.heap.size ∧ Below w.heap.size w w2 ∧ Below (w.heap.size + 1) W0 w2) := Lib.hid ⟨by have := HB1.out.size; have := HW0.out.2; omega, HW0.out.1.trans (HB1.out.mono HW0.out.1.size), HB1.out.mono (by rw [HW0.out.2]; exact Nat.le_refl _)⟩
    have HK4 : Hid (∀ w3, Below w2.heap.size w2 w3 → Below (w.heap.size + 1) W0 (w3.setCell ⟨w2.heap.size, (v + 1).toNat, none⟩ (.bool true)) ∧ Below w.heap.size w (w3.setCell ⟨w2.heap.size, (v + 1).toNat, none⟩ (.bool true))) := Lib.hid fun w3 hb3 =>
      ⟨(HSZ2.out.2.2.trans (hb3.mono HSZ2.out.1)).setCell (p := ⟨w2.heap.size, (v + 1).toNat, none⟩) HSZ2.out.1 _, (HSZ2.out.2.1.trans (hb3.mono (by have := HSZ2.out.1; omega))).setCell (p := ⟨w2.heap.size, (v + 1).toNat, none⟩) (by have := HSZ2.out.1; show _ ≤ w2.heap.size; omega) _⟩
    go_wp2_with (at_make; go_must ((refine wpList_make_full _ (by rfl) _ _ 89 (by rfl) w.heap.size 4 i0 _ 1 Tryd.underlying89 hi0 hz0 hz1 .i64 .i64 (n : Int) (n : Int) n (by rfl) (by rfl) rfl rfl (by rw [hz2]; omega) (by unfold maxLen; omega) (by have := HSZ2.out.1; omega) (fun w3 hown hgr => ?_)); (obtain ⟨HRB, hgc, hgf⟩ := made_row hown hgr (v + 1).toNat HV.out); (have c5' := HKS.out _ (HK4.out _ HRB.out.2).1); (clear hown hgr)))
    have hr4 := HRB.out.1.set (v + 1).toNat true
    have HB4 := Lib.hid (HK4.out _ HRB.out.2)
    rw [← HNE.out] at HONE
    rw [← HONE.out] at hr4
    have HSXX := Lib.hid (HSX.out w2.heap.size n _ HB4.out.2 HNE.out hr4)
    clear HRB hr4 c5
    go_wp2_with fail
    (with_reducible refine HSXX.out.mono ?_)
    rintro e w5 ⟨g', rfl, hr5, hb5⟩
    have HR5 : Hid (Below w.heap.size w w5 ∧ RowB w5 g' fr) := Lib.hid ⟨HB4.out.2.trans (hb5.mono HB4.out.2.size), hr5⟩
    clear hr5 hb5 c5' hgc hgf
    go_wp2_with fail
    go_loopw [10, 35] (fun ov jv wr => ∃ j : Nat, jv = .int .i64 j ∧ j ≤ n ∧ Hid (Below w5.heap.size w5 wr ∧ wr.ownsRow w5.heap.size 3 1 ov (trueTo fr j).length ((trueTo fr j).map (Value.int .i64)))) (fun _ jv _ => n - (intOf jv).toNat)
    case atStart => exact ⟨0, rfl, Nat.zero_le _, Lib.hid ⟨Below.refl _ _, World.ownsRow_nil _ _ _ _⟩⟩
    case round =>
      obtain ⟨j, rfl, hjn, HJ⟩ := hrel
      obtain ⟨oa, oc, rfl, _, _, _⟩ := own_slice HJ.out.2
      obtain ⟨on, hon⟩ : ∃ on, (trueTo fr j).length = on := ⟨_, rfl⟩
      have honl : on ≤ 1025 := by have := trueTo_len fr j; omega
      rw [hon] at HJ ⊢
      have HON := Lib.hid hon
      clear hon
      by_cases hj2 : j < n
      · have hjf : j < fr.length := by rw [HFN.out]; exact hj2
        have hc := (HR5.out.2.below HR5.out.2.lt HJ.out.1).cell (List.getElem?_eq_getElem hjf)
        have HSU : Hid (trueTo fr (j + 1) = trueTo fr j ++ (if fr[j] then [(j : Int) - 1] else [])) := Lib.hid (by rw [trueTo_succ, List.getElem?_eq_getElem hjf]; rfl)
        have i3 : (0 : Int) ≤ (j : Int) := by omega
        have i4 : (j : Int) < (n : Int) := by omega
        have ewj : IntKind.i64.wrap ((j : Int) + 1) = (j : Int) + 1 := IntWalk.i64_in _ (by omega)
        have ewk : IntKind.i64.wrap ((j : Int) - 1) = (j : Int) - 1 := IntWalk.i64_in _ (by omega)
        generalize fr[j] = fb at *
        cases fb with
        | false =>
          have HN8 : Hid (Below w5.heap.size w5 wr ∧ wr.ownsRow w5.heap.size 3 1 (.slice oa on oc) (trueTo fr (j + 1)).length ((trueTo fr (j + 1)).map (Value.int .i64))) := Lib.hid (by
            rw [HSU.out]
            simp only [Bool.false_eq_true, if_false, List.append_nil, HON.out]
            exact HJ.out)
          clear HSU
          go_wp2_with fail
          go_roundw
          case rel => exact ⟨j + 1, by go_num, by omega, HN8⟩
          case measure => simp [intOf]; omega
        | true =>
          go_wp2_with (at_builtin; go_must ((refine wpList_app wr (by rfl) _ _ 36 (by rfl) w5.heap.size 3 j0 (.int .i64 0) 1 8 Tryd.underlying36 hj hjz0 hjz1 hjz2 (by rfl) (by decide) (.slice oa on oc) on _ (by rfl) HJ.out.2 _ rfl 1 [.int .i64 ((j : Int) - 1)] (by rfl) (by rfl) (by intro u hu; simp only [List.mem_cons, List.not_mem_nil, or_false] at hu; subst hu; rfl) (by omega) (by decide) HJ.out.1.size (fun v7 w7 hown7 hap7 => ?_))))
          have hb7 : Below w5.heap.size w5 w7 := (HJ.out.1.alloc HJ.out.1.size _).trans (hap7.below (by have := HJ.out.1.size; simp; omega) (fun j hj' => (HJ.out.2.lt j hj').1))
          have hown8 : w7.ownsRow w5.heap.size 3 1 v7 (trueTo fr (j + 1)).length ((trueTo fr (j + 1)).map (Value.int .i64)) := by
            rw [HSU.out, if_pos rfl, List.length_append, HON.out, List.map_append]
            exact hown7
          have HN8 := Lib.hid (⟨hb7, hown8⟩ : _ ∧ _)
          clear hb7 hown8 hown7 hap7 HSU
          go_wp2_with fail
          go_roundw
          case rel => exact ⟨j + 1, by go_num, by omega, HN8⟩
          case measure => simp [intOf]; omega
      · have hk2 : j = n := by omega
        subst hk2
        have m1 : (j : Int) ≤ (j : Int) := by omega
        go_wp2_with fail
        go_ret2
        have ho := HJ.out.2
        have hn := HON.out
        rw [← HFP.out] at ho hn
        obtain ⟨a', c', e', hc', h2, h3⟩ := own_ints2 ho
        cases e'
        rw [hn]
        exact ⟨_, _, rfl, hc', h2, fun ad h => Nat.le_trans HR5.out.1.size (h3 ad h), HR5.out.1.trans (HJ.out.1.mono HR5.out.1.size)⟩
end Go.Proofs.YtekoflcioooncaaDoor

/-
  gimletlaw12: light says something, whatever comes.
-/
namespace Go.Proofs.YtekoflcioooncaaDoor
open Go.RowKit

theorem w64_eq (x : Int) : Go.RowKit.wrap64 x = IntKind.i64.wrap x := by rw [IntKind.wrap_i64]; unfold Go.RowKit.wrap64; rfl
/-- summed up, up to a bound -/
def capL {α : Type} (B : Int) (h : α → Int → Int) : Int → List α → Int
  | n, [] => n
  | n, x :: r => if n ≤ B then capL B h (h x n) r else n
theorem capL_stop {α : Type} {B : Int} {h : α → Int → Int} {n : Int} (hn : B < n) (l : List α) : capL B h n l = n := by
  cases l with
  | nil => rfl
  | cons x r => exact if_neg (by omega)
theorem capL_cons {α : Type} {B : Int} {h : α → Int → Int} {n : Int} (hn : n ≤ B) (x : α) (r : List α) : capL B h n (x :: r) = capL B h (h x n) r := if_pos hn
def wtS (g : Int → List PX → Int) (d : Int) (s : PS) (n : Int) : Int := IntKind.i64.wrap (n + g (IntKind.i64.wrap (d + 1)) s.wher)
def wtN (g : Int → List PX → Int) (d : Int) (ss : List PS) : Int := if 12 < d then 1000 else capL 60 (wtS g d) ss.length ss
def exS (g : Int → List PX → Int) (d : Int) (x : PX) (n : Int) : Int := IntKind.i64.wrap (n + IntKind.i64.wrap (g (IntKind.i64.wrap (d + 1)) x.args + wtN g (IntKind.i64.wrap (d + 1)) x.path))
def exN : Nat → Int → List PX → Int
  | 0, d, l => if 12 < d then 1000 else l.length
  | f + 1, d, l => if 12 < d then 1000 else capL 60 (exS (exN f) d) l.length l

def WtX (f : Nat) : Prop := ∀ (a : Option Addr) (c : Nat) (ss : List PS) (d : Int) (W : World), SsAt f W a ss → ss.length ≤ 1048576 →
  Calls Tryd.prog 30 #[.slice a ss.length c, .int .i64 d] W fun e w' => e = .returned (.int .i64 (wtN (exN f) d ss)) ∧ Below W.heap.size W w'
def ExX (f : Nat) : Prop := ∀ (a : Option Addr) (c : Nat) (l : List PX) (d : Int) (W : World), XsAt f W a l → l.length ≤ 1048576 →
  Calls Tryd.prog 57 #[.slice a l.length c, .int .i64 d] W fun e w' => e = .returned (.int .i64 (exN f d l)) ∧ Below W.heap.size W w'

set_option maxRecDepth 100000 in
set_option maxHeartbeats 4000000 in
theorem weight_of {f : Nat} (HL : ExX f) : WtX f := fun a c ss d w hs hn => by
  have HS := Lib.hid hs
  have HLL := Lib.hid HL
  obtain ⟨R, hR⟩ : ∃ R, wtN (exN f) d ss = R := ⟨_, rfl⟩
  rw [hR]
  unfold wtN at hR
  by_cases hd : 12 < d
  · rw [if_pos hd] at hR
    have HR := Lib.hid hR
    clear hs HL hR HS HLL
    generalize ss.length = n at *
    go_enter Tryd.func30, Tryd.ntmps30
    go_wp2_with fail
    go_ret
    exact ⟨ret_int HR.out, Below.refl _ _⟩
  rw [if_neg hd] at hR
  have hd' : d ≤ 12 := by omega
  have HR := Lib.hid hR
  clear hs HL hR hd
  obtain ⟨n, hm⟩ : ∃ n, ss.length = n := ⟨_, rfl⟩
  rw [hm] at hn HR ⊢
  have HM := Lib.hid hm
  clear hm
  go_enter Tryd.func30, Tryd.ntmps30
  go_wp2_with fail
  go_loopw [5, 6] (fun kv iv wr => ∃ (i : Nat) (r : Int), iv = .int .i64 i ∧ kv = .int .i64 r ∧ i ≤ n ∧ Hid (capL 60 (wtS (exN f) d) r (ss.drop i) = R ∧ Below w.heap.size w wr)) (fun _ iv _ => n - (intOf iv).toNat)
  case atStart => exact ⟨0, n, rfl, rfl, Nat.zero_le _, Lib.hid ⟨by rw [List.drop_zero]; exact HR.out, Below.refl _ _⟩⟩
  case round =>
    obtain ⟨i, r, rfl, rfl, hin, HB⟩ := hrel
    by_cases hi : i < n
    · have i1 : (0 : Int) ≤ (i : Int) := by omega
      have i2 : (i : Int) < (n : Int) := by omega
      have ewi : IntKind.i64.wrap ((i : Int) + 1) = (i : Int) + 1 := IntWalk.i64_in _ (by omega)
      by_cases hr : r ≤ 60
      · have hil : i < ss.length := by rw [HM.out]; exact hi
        obtain ⟨b, o, wa, wc, rfl, hb, hx, h4, h5, h6, h7, h8, hcs⟩ := HS.out.get i hil
        have HCS : Hid (∀ W, Below w.heap.size w W → W.cell? ⟨b, o + i * 4 + 3, none⟩ = some (.slice wa ss[i].wher.length wc)) := Lib.hid fun W hW => (hcs W hW).2.2.2
        have HRL : Hid (∀ W q, Below w.heap.size w W → Calls Tryd.prog 57 #[.slice wa ss[i].wher.length wc, .int .i64 q] W fun e w' => e = .returned (.int .i64 (exN f q ss[i].wher)) ∧ Below W.heap.size W w') := Lib.hid fun W q hW => HLL.out wa wc ss[i].wher q W (XsAt.below hx hW) h8
        have HNX : Hid (capL 60 (wtS (exN f) d) (IntKind.i64.wrap (r + exN f (IntKind.i64.wrap (d + 1)) ss[i].wher)) (ss.drop (i + 1)) = R) := Lib.hid (by
          have := HB.out.1
          rw [List.drop_eq_getElem_cons hil, capL_cons hr] at this
          exact this)
        clear hcs hx h4 h5 h6 h7 h8 hb
        generalize hnew : exN f (IntKind.i64.wrap (d + 1)) ss[i].wher = z at *
        have HNEW := Lib.hid hnew
        clear hnew
        generalize ss[i].wher = wl at *
        generalize hwl : wl.length = wn at *
        clear hwl
        generalize hdd : IntKind.i64.wrap (d + 1) = dd at *
        have c3 := HCS.out _ HB.out.2
        go_wp2_with fail
        (with_reducible refine (HRL.out _ dd HB.out.2).mono ?_)
        rintro e w2 ⟨rfl, hb2⟩
        rw [HNEW.out]
        have HB2 := Lib.hid (HB.out.2.trans (hb2.mono HB.out.2.size))
        clear hb2
        go_wp2_with fail
        go_roundw
        case rel => exact ⟨i + 1, _, by go_num, rfl, by omega, Lib.hid ⟨(by rw [w64_eq]; exact HNX.out), HB2.out⟩⟩
        case measure => simp [intOf]; omega
      · have hr' : 60 < r := by omega
        have HE : Hid (r = R) := Lib.hid (by rw [← HB.out.1, capL_stop hr'])
        go_wp2_with fail
        go_ret
        exact ⟨ret_int HE.out, HB.out.2⟩
    · have i4 : (n : Int) ≤ (i : Int) := by omega
      have HE : Hid (r = R) := Lib.hid (by rw [← HB.out.1, List.drop_of_length_le (by rw [HM.out]; omega)]; rfl)
      go_wp2_with fail
      go_ret
      exact ⟨ret_int HE.out, HB.out.2⟩
set_option maxRecDepth 100000 in
set_option maxHeartbeats 4000000 in
theorem exprs_big (f : Nat) (a : Option Addr) (c : Nat) (l : List PX) (d : Int) (w : World) (hd : 12 < d) :
    Calls Tryd.prog 57 #[.slice a l.length c, .int .i64 d] w fun e w' => e = .returned (.int .i64 (exN f d l)) ∧ Below w.heap.size w w' := by
  have hR : exN f d l = 1000 := by cases f <;> exact if_pos hd
  rw [hR]
  clear hR
  generalize l.length = n at *
  go_enter Tryd.func57, Tryd.ntmps57
  go_wp2_with fail
  go_ret
  exact ⟨rfl, Below.refl _ _⟩
set_option maxRecDepth 100000 in
set_option maxHeartbeats 4000000 in
theorem exprs_of {f : Nat} (HL : ExX f) (HW : WtX f) : ExX (f + 1) := fun a c l d w hs hn => by
  by_cases hd : 12 < d
  · exact exprs_big _ a c l d w hd
  have HS := Lib.hid hs
  have HLL := Lib.hid HL
  have HWW := Lib.hid HW
  obtain ⟨R, hR⟩ : ∃ R, exN (f + 1) d l = R := ⟨_, rfl⟩
  rw [hR]
  have hR' : capL 60 (exS (exN f) d) l.length l = R := (if_neg hd).symm.trans hR
  have hd' : d ≤ 12 := by omega
  have HR := Lib.hid hR'
  clear hs HL HW hR hR' hd
  obtain ⟨n, hm⟩ : ∃ n, l.length = n := ⟨_, rfl⟩
  rw [hm] at hn HR ⊢
  have HM := Lib.hid hm
  clear hm
  go_enter Tryd.func57, Tryd.ntmps57
  go_wp2_with fail
  go_loopw [5, 6] (fun kv iv wr => ∃ (i : Nat) (r : Int), iv = .int .i64 i ∧ kv = .int .i64 r ∧ i ≤ n ∧ Hid (capL 60 (exS (exN f) d) r (l.drop i) = R ∧ Below w.heap.size w wr)) (fun _ iv _ => n - (intOf iv).toNat)
  case atStart => exact ⟨0, n, rfl, rfl, Nat.zero_le _, Lib.hid ⟨by rw [List.drop_zero]; exact HR.out, Below.refl _ _⟩⟩
  case round =>
    obtain ⟨i, r, rfl, rfl, hin, HB⟩ := hrel
    by_cases hi : i < n
    · have i1 : (0 : Int) ≤ (i : Int) := by omega
      have i2 : (i : Int) < (n : Int) := by omega
      have ewi : IntKind.i64.wrap ((i : Int) + 1) = (i : Int) + 1 := IntWalk.i64_in _ (by omega)
      by_cases hr : r ≤ 60
      · have hil : i < l.length := by rw [HM.out]; exact hi
        obtain ⟨b, o, xa, xc, xp, xd, rfl, hb, hxa, hxp, h4, h5, h6, h7, h8, h9, h10, h11, h12, hcs⟩ := HS.out.get i hil
        have HCS : Hid (∀ W, Below w.heap.size w W → W.cell? ⟨b, o + i * 7 + 1, none⟩ = some (.slice xa l[i].args.length xc) ∧ W.cell? ⟨b, o + i * 7 + 2, none⟩ = some (.slice xp l[i].path.length xd) ∧ Below w.heap.size w W) := Lib.hid fun W hW => ⟨(hcs W hW).2.1, (hcs W hW).2.2.1, hW⟩
        have HRL : Hid (∀ W q, Below w.heap.size w W → Calls Tryd.prog 57 #[.slice xa l[i].args.length xc, .int .i64 q] W fun e w' => e = .returned (.int .i64 (exN f q l[i].args)) ∧ Below W.heap.size W w') := Lib.hid fun W q hW => HLL.out xa xc l[i].args q W (XsAt.below hxa hW) h11
        have HRX : Hid (∀ W q, Below w.heap.size w W → Calls Tryd.prog 30 #[.slice xp l[i].path.length xd, .int .i64 q] W fun e w' => e = .returned (.int .i64 (wtN (exN f) q l[i].path)) ∧ Below W.heap.size W w') := Lib.hid fun W q hW => HWW.out xp xd l[i].path q W (SsAt.below hxp hW) h12
        have HNX : Hid (capL 60 (exS (exN f) d) (IntKind.i64.wrap (r + IntKind.i64.wrap (exN f (IntKind.i64.wrap (d + 1)) l[i].args + wtN (exN f) (IntKind.i64.wrap (d + 1)) l[i].path))) (l.drop (i + 1)) = R) := Lib.hid (by
          have := HB.out.1
          rw [List.drop_eq_getElem_cons hil, capL_cons hr] at this
          exact this)
        clear hcs hxa hxp h4 h5 h6 h7 h8 h9 h10 h11 h12 hb
        obtain ⟨dd, hdd⟩ : ∃ dd, IntKind.i64.wrap (d + 1) = dd := ⟨_, rfl⟩
        rw [hdd] at HNX
        have HRL2 : Hid (∀ W, Below w.heap.size w W → Calls Tryd.prog 57 #[.slice xa l[i].args.length xc, .int .i64 dd] W fun e w' => e = .returned (.int .i64 (exN f dd l[i].args)) ∧ Below w.heap.size w w') := Lib.hid fun W hW => (HRL.out W dd hW).mono fun e w' ⟨h1, h2⟩ => ⟨h1, hW.trans (h2.mono hW.size)⟩
        have HRX2 : Hid (∀ W, Below w.heap.size w W → Calls Tryd.prog 30 #[.slice xp l[i].path.length xd, .int .i64 dd] W fun e w' => e = .returned (.int .i64 (wtN (exN f) dd l[i].path)) ∧ Below w.heap.size w w') := Lib.hid fun W hW => (HRX.out W dd hW).mono fun e w' ⟨h1, h2⟩ => ⟨h1, hW.trans (h2.mono hW.size)⟩
        clear HRL HRX
        generalize exN f dd l[i].args = z1 at *
        generalize wtN (exN f) dd l[i].path = z2 at *
        generalize l[i].args.length = xl at *
        generalize l[i].path.length = pl at *
        have HBD := Lib.hid (HB.out.2.drew)
        have hbd := HBD.out
        obtain ⟨c1, c2, _⟩ := HCS.out _ hbd
        go_wp2_with fail
        go_region_held3 (fun w' => w'.cell? ⟨b, o + i * 7 + 1, none⟩ = some (.slice xa xl xc) ∧ w'.cell? ⟨b, o + i * 7 + 2, none⟩ = some (.slice xp pl xd) ∧ Below w.heap.size w w') (first | exact HCS.out _ hbd | exact HCS.out _ ‹_›) (first | (go_at_call 57; (with_reducible refine (HRL2.out _ ‹_›).mono ?_); rintro e w5 ⟨rfl, hb5⟩) | (go_at_call 30; (with_reducible refine (HRX2.out _ ‹_›).mono ?_); rintro e w7 ⟨rfl, hb7⟩))
        have HB8 := Lib.hid hb7
        clear hb5 hb7
        go_wp2_with fail
        go_roundw
        case rel => exact ⟨i + 1, _, by go_num, rfl, by omega, Lib.hid ⟨HNX.out, HB8.out⟩⟩
        case measure => simp [intOf]; omega
      · have hr' : 60 < r := by omega
        have HE : Hid (r = R) := Lib.hid (by rw [← HB.out.1, capL_stop hr'])
        go_wp2_with fail
        go_ret
        exact ⟨ret_int HE.out, HB.out.2⟩
    · have i4 : (n : Int) ≤ (i : Int) := by omega
      have HE : Hid (r = R) := Lib.hid (by rw [← HB.out.1, List.drop_of_length_le (by rw [HM.out]; omega)]; rfl)
      go_wp2_with fail
      go_ret
      exact ⟨ret_int HE.out, HB.out.2⟩
set_option maxRecDepth 100000 in
set_option maxHeartbeats 4000000 in
theorem exprs_zero : ExX 0 := fun a c l d w hs hn => by
  by_cases hd : 12 < d
  · exact exprs_big _ a c l d w hd
  obtain rfl : l = [] := XsAt.zero hs
  have hR : exN 0 d [] = 0 := if_neg hd
  rw [hR, show ([] : List PX).length = 0 from rfl]
  have hd' : d ≤ 12 := by omega
  clear hs hn hd hR
  go_enter Tryd.func57, Tryd.ntmps57
  go_wp2_with fail
  go_loopw [5, 6] (fun kv iv wr => iv = .int .i64 0 ∧ kv = .int .i64 0 ∧ Hid (Below w.heap.size w wr)) (fun _ _ _ => 0)
  case atStart => exact ⟨rfl, rfl, Lib.hid (Below.refl _ _)⟩
  case round =>
    obtain ⟨rfl, rfl, HB⟩ := hrel
    go_wp2_with fail
    go_ret
    exact ⟨rfl, HB.out⟩
theorem exprs_all : ∀ f, ExX f
  | 0 => exprs_zero
  | f + 1 => exprs_of (exprs_all f) (weight_of (exprs_all f))
theorem weight_all (f : Nat) : WtX f := weight_of (exprs_all f)
end Go.Proofs.YtekoflcioooncaaDoor

/-
  gimletref12.work, works, Heavy; gimletlaw12.light: it says something, whatever comes.
-/
namespace Go.Proofs.YtekoflcioooncaaDoor
open Go.RowKit

def SomeB (e : Ending) : Prop := ∃ b, e = .returned (.bool b)
def wkL (g : Int → List PX → Int) (m : Int) : Int → List PS → Int
  | n, [] => n
  | n, s :: r => if n ≤ 16777216 then (if 16777216 < IntKind.i64.wrap (1 + g m s.wher) then IntKind.i64.wrap (1 + g m s.wher) else wkL g m (IntKind.i64.wrap (n + IntKind.i64.wrap (m * IntKind.i64.wrap (1 + g m s.wher)))) r) else n
theorem wkL_stop {g : Int → List PX → Int} {m n : Int} (hn : 16777216 < n) (l : List PS) : wkL g m n l = n := by
  cases l with
  | nil => rfl
  | cons x r => exact if_neg (by omega)
theorem wkL_cons {g : Int → List PX → Int} {m n : Int} (hn : n ≤ 16777216) (s : PS) (r : List PS) : wkL g m n (s :: r) = if 16777216 < IntKind.i64.wrap (1 + g m s.wher) then IntKind.i64.wrap (1 + g m s.wher) else wkL g m (IntKind.i64.wrap (n + IntKind.i64.wrap (m * IntKind.i64.wrap (1 + g m s.wher)))) r := if_pos hn
def woS (g : Int → List PX → Int) (m : Int) (x : PX) (n : Int) : Int := IntKind.i64.wrap (n + IntKind.i64.wrap (IntKind.i64.wrap (1 + g m x.args) + wkL g m 0 x.path))
def woN : Nat → Int → List PX → Int
  | 0, _, _ => 0
  | f + 1, m, l => capL 16777216 (woS (woN f) m) 0 l

def WkX (f : Nat) : Prop := ∀ (a : Option Addr) (c : Nat) (ss : List PS) (m : Int) (W : World), SsAt f W a ss → ss.length ≤ 1048576 →
  Calls Tryd.prog 58 #[.slice a ss.length c, .int .i64 m] W fun e w' => e = .returned (.int .i64 (wkL (woN f) m 0 ss)) ∧ Below W.heap.size W w'
def WoX (f : Nat) : Prop := ∀ (a : Option Addr) (c : Nat) (l : List PX) (m : Int) (W : World), XsAt f W a l → l.length ≤ 1048576 →
  Calls Tryd.prog 78 #[.slice a l.length c, .int .i64 m] W fun e w' => e = .returned (.int .i64 (woN f m l)) ∧ Below W.heap.size W w'

set_option maxRecDepth 100000 in
set_option maxHeartbeats 4000000 in
theorem work_of {f : Nat} (HL : WoX f) : WkX f := fun a c ss m w hs hn => by
  have HS := Lib.hid hs
  have HLL := Lib.hid HL
  obtain ⟨R, hR⟩ : ∃ R, wkL (woN f) m 0 ss = R := ⟨_, rfl⟩
  rw [hR]
  have HR := Lib.hid hR
  clear hs HL hR
  obtain ⟨n, hm⟩ : ∃ n, ss.length = n := ⟨_, rfl⟩
  rw [hm] at hn ⊢
  have HM := Lib.hid hm
  clear hm
  go_enter Tryd.func58, Tryd.ntmps58
  go_wp2_with fail
  go_loopw [5, 6] (fun kv iv wr => ∃ (i : Nat) (r : Int), iv = .int .i64 i ∧ kv = .int .i64 r ∧ i ≤ n ∧ Hid (wkL (woN f) m r (ss.drop i) = R ∧ Below w.heap.size w wr)) (fun _ iv _ => n - (intOf iv).toNat)
  case atStart => exact ⟨0, 0, rfl, rfl, Nat.zero_le _, Lib.hid ⟨by rw [List.drop_zero]; exact HR.out, Below.refl _ _⟩⟩
  case round =>
    obtain ⟨i, r, rfl, rfl, hin, HB⟩ := hrel
    by_cases hi : i < n
    · have i1 : (0 : Int) ≤ (i : Int) := by omega
      have i2 : (i : Int) < (n : Int) := by omega
      have ewi : IntKind.i64.wrap ((i : Int) + 1) = (i : Int) + 1 := IntWalk.i64_in _ (by omega)
      by_cases hr : r ≤ 16777216
      · have hil : i < ss.length := by rw [HM.out]; exact hi
        obtain ⟨b, o, wa, wc, rfl, hb, hx, h4, h5, h6, h7, h8, hcs⟩ := HS.out.get i hil
        have HCS : Hid (∀ W, Below w.heap.size w W → W.cell? ⟨b, o + i * 4 + 3, none⟩ = some (.slice wa ss[i].wher.length wc)) := Lib.hid fun W hW => (hcs W hW).2.2.2
        have HRL : Hid (∀ W, Below w.heap.size w W → Calls Tryd.prog 78 #[.slice wa ss[i].wher.length wc, .int .i64 m] W fun e w' => e = .returned (.int .i64 (woN f m ss[i].wher)) ∧ Below W.heap.size W w') := Lib.hid fun W hW => HLL.out wa wc ss[i].wher m W (XsAt.below hx hW) h8
        have HNX : Hid ((if 16777216 < IntKind.i64.wrap (1 + woN f m ss[i].wher) then IntKind.i64.wrap (1 + woN f m ss[i].wher) else wkL (woN f) m (IntKind.i64.wrap (r + IntKind.i64.wrap (m * IntKind.i64.wrap (1 + woN f m ss[i].wher)))) (ss.drop (i + 1))) = R) := Lib.hid (by
          have := HB.out.1
          rw [List.drop_eq_getElem_cons hil, wkL_cons hr] at this
          exact this)
        clear hcs hx h4 h5 h6 h7 h8 hb
        obtain ⟨z, hz⟩ : ∃ z, woN f m ss[i].wher = z := ⟨_, rfl⟩
        rw [hz] at HRL HNX
        clear hz
        generalize ss[i].wher.length = wn at *
        have c3 := HCS.out _ HB.out.2
        obtain ⟨k, hk⟩ : ∃ k, IntKind.i64.wrap (1 + z) = k := ⟨_, rfl⟩
        rw [hk] at HNX
        go_wp2_with fail
        (with_reducible refine (HRL.out _ HB.out.2).mono ?_)
        rintro e w2 ⟨rfl, hb2⟩
        have HB2 := Lib.hid (HB.out.2.trans (hb2.mono HB.out.2.size))
        clear hb2
        by_cases hkk : 16777216 < k
        · rw [if_pos hkk] at HNX
          go_wp2_with fail
          go_ret
          exact ⟨ret_int HNX.out, HB2.out⟩
        · rw [if_neg hkk] at HNX
          have hk2 : k ≤ 16777216 := by omega
          clear hkk
          go_wp2_with fail
          go_roundw
          case rel => exact ⟨i + 1, _, by go_num, rfl, by omega, Lib.hid ⟨(by simp only [w64_eq]; exact HNX.out), HB2.out⟩⟩
          case measure => simp [intOf]; omega
      · have hr' : 16777216 < r := by omega
        have HE : Hid (r = R) := Lib.hid (by rw [← HB.out.1, wkL_stop hr'])
        go_wp2_with fail
        go_ret
        exact ⟨ret_int HE.out, HB.out.2⟩
    · have i4 : (n : Int) ≤ (i : Int) := by omega
      have HE : Hid (r = R) := Lib.hid (by rw [← HB.out.1, List.drop_of_length_le (by rw [HM.out]; omega)]; rfl)
      go_wp2_with fail
      go_ret
      exact ⟨ret_int HE.out, HB.out.2⟩
set_option maxRecDepth 100000 in
set_option maxHeartbeats 4000000 in
theorem works_of {f : Nat} (HL : WoX f) (HW : WkX f) : WoX (f + 1) := fun a c l m w hs hn => by
  have HS := Lib.hid hs
  have HLL := Lib.hid HL
  have HWW := Lib.hid HW
  obtain ⟨R, hR⟩ : ∃ R, woN (f + 1) m l = R := ⟨_, rfl⟩
  rw [hR]
  have hR' : capL 16777216 (woS (woN f) m) 0 l = R := hR
  have HR := Lib.hid hR'
  clear hs HL HW hR hR'
  obtain ⟨n, hm⟩ : ∃ n, l.length = n := ⟨_, rfl⟩
  rw [hm] at hn ⊢
  have HM := Lib.hid hm
  clear hm
  go_enter Tryd.func78, Tryd.ntmps78
  go_wp2_with fail
  go_loopw [5, 6] (fun kv iv wr => ∃ (i : Nat) (r : Int), iv = .int .i64 i ∧ kv = .int .i64 r ∧ i ≤ n ∧ Hid (capL 16777216 (woS (woN f) m) r (l.drop i) = R ∧ Below w.heap.size w wr)) (fun _ iv _ => n - (intOf iv).toNat)
  case atStart => exact ⟨0, 0, rfl, rfl, Nat.zero_le _, Lib.hid ⟨by rw [List.drop_zero]; exact HR.out, Below.refl _ _⟩⟩
  case round =>
    obtain ⟨i, r, rfl, rfl, hin, HB⟩ := hrel
    by_cases hi : i < n
    · have i1 : (0 : Int) ≤ (i : Int) := by omega
      have i2 : (i : Int) < (n : Int) := by omega
      have ewi : IntKind.i64.wrap ((i : Int) + 1) = (i : Int) + 1 := IntWalk.i64_in _ (by omega)
      by_cases hr : r ≤ 16777216
      · have hil : i < l.length := by rw [HM.out]; exact hi
        obtain ⟨b, o, xa, xc, xp, xd, rfl, hb, hxa, hxp, h4, h5, h6, h7, h8, h9, h10, h11, h12, hcs⟩ := HS.out.get i hil
        have HCS : Hid (∀ W, Below w.heap.size w W → W.cell? ⟨b, o + i * 7 + 1, none⟩ = some (.slice xa l[i].args.length xc) ∧ W.cell? ⟨b, o + i * 7 + 2, none⟩ = some (.slice xp l[i].path.length xd) ∧ Below w.heap.size w W) := Lib.hid fun W hW => ⟨(hcs W hW).2.1, (hcs W hW).2.2.1, hW⟩
        have HRL2 : Hid (∀ W, Below w.heap.size w W → Calls Tryd.prog 78 #[.slice xa l[i].args.length xc, .int .i64 m] W fun e w' => e = .returned (.int .i64 (woN f m l[i].args)) ∧ Below w.heap.size w w') := Lib.hid fun W hW => (HLL.out xa xc l[i].args m W (XsAt.below hxa hW) h11).mono fun e w' ⟨h1, h2⟩ => ⟨h1, hW.trans (h2.mono hW.size)⟩
        have HRX2 : Hid (∀ W, Below w.heap.size w W → Calls Tryd.prog 58 #[.slice xp l[i].path.length xd, .int .i64 m] W fun e w' => e = .returned (.int .i64 (wkL (woN f) m 0 l[i].path)) ∧ Below w.heap.size w w') := Lib.hid fun W hW => (HWW.out xp xd l[i].path m W (SsAt.below hxp hW) h12).mono fun e w' ⟨h1, h2⟩ => ⟨h1, hW.trans (h2.mono hW.size)⟩
        have HNX : Hid (capL 16777216 (woS (woN f) m) (IntKind.i64.wrap (r + IntKind.i64.wrap (IntKind.i64.wrap (1 + woN f m l[i].args) + wkL (woN f) m 0 l[i].path))) (l.drop (i + 1)) = R) := Lib.hid (by
          have := HB.out.1
          rw [List.drop_eq_getElem_cons hil, capL_cons hr] at this
          exact this)
        clear hcs hxa hxp h4 h5 h6 h7 h8 h9 h10 h11 h12 hb
        generalize woN f m l[i].args = z1 at *
        generalize wkL (woN f) m 0 l[i].path = z2 at *
        generalize l[i].args.length = xl at *
        generalize l[i].path.length = pl at *
        have HBD := Lib.hid (HB.out.2.drew)
        have hbd := HBD.out
        obtain ⟨c1, c2, _⟩ := HCS.out _ hbd
        go_wp2_with fail
        go_region_held3 (fun w' => w'.cell? ⟨b, o + i * 7 + 1, none⟩ = some (.slice xa xl xc) ∧ w'.cell? ⟨b, o + i * 7 + 2, none⟩ = some (.slice xp pl xd) ∧ Below w.heap.size w w') (first | exact HCS.out _ hbd | exact HCS.out _ ‹_›) (first | (go_at_call 78; (with_reducible refine (HRL2.out _ ‹_›).mono ?_); rintro e w5 ⟨rfl, hb5⟩) | (go_at_call 58; (with_reducible refine (HRX2.out _ ‹_›).mono ?_); rintro e w7 ⟨rfl, hb7⟩))
        have HB8 := Lib.hid hb7
        clear hb5 hb7
        go_wp2_with fail
        go_roundw
        case rel => exact ⟨i + 1, _, by go_num, rfl, by omega, Lib.hid ⟨HNX.out, HB8.out⟩⟩
        case measure => simp [intOf]; omega
      · have hr' : 16777216 < r := by omega
        have HE : Hid (r = R) := Lib.hid (by rw [← HB.out.1, capL_stop hr'])
        go_wp2_with fail
        go_ret
        exact ⟨ret_int HE.out, HB.out.2⟩
    · have i4 : (n : Int) ≤ (i : Int) := by omega
      have HE : Hid (r = R) := Lib.hid (by rw [← HB.out.1, List.drop_of_length_le (by rw [HM.out]; omega)]; rfl)
      go_wp2_with fail
      go_ret
      exact ⟨ret_int HE.out, HB.out.2⟩
set_option maxRecDepth 100000 in
set_option maxHeartbeats 4000000 in
theorem works_zero : WoX 0 := fun a c l m w hs hn => by
  obtain rfl : l = [] := XsAt.zero hs
  rw [show ([] : List PX).length = 0 from rfl, show woN 0 m [] = 0 from rfl]
  clear hs hn
  go_enter Tryd.func78, Tryd.ntmps78
  go_wp2_with fail
  go_loopw [5, 6] (fun kv iv wr => iv = .int .i64 0 ∧ kv = .int .i64 0 ∧ Hid (Below w.heap.size w wr)) (fun _ _ _ => 0)
  case atStart => exact ⟨rfl, rfl, Lib.hid (Below.refl _ _)⟩
  case round =>
    obtain ⟨rfl, rfl, HB⟩ := hrel
    go_wp2_with fail
    go_ret
    exact ⟨rfl, HB.out⟩
theorem works_all : ∀ f, WoX f
  | 0 => works_zero
  | f + 1 => works_of (works_all f) (work_of (works_all f))
theorem work_all (f : Nat) : WkX f := work_of (works_all f)
set_option maxRecDepth 100000 in
set_option maxHeartbeats 4000000 in
theorem heavy_any {f : Nat} (a : Option Addr) (c : Nat) (ss : List PS) (w : World) (hs : SsAt f w a ss) (hn : ss.length ≤ 1048576) :
    Calls Tryd.prog 31 #[.agg #[.slice a ss.length c], .int .i64 60] w fun e w' => SomeB e ∧ Below w.heap.size w w' := by
  have hb0 : Below w.heap.size w (w.alloc (.cells #[.slice a ss.length c] 25)) := (Below.refl _ _).alloc (Nat.le_refl _) _
  have HB0 := Lib.hid hb0
  have HR := Lib.hid (work_all f a c ss 61 _ (SsAt.below hs hb0) hn)
  clear hs hb0
  generalize ss.length = n at *
  generalize wkL (woN f) 61 0 ss = z at *
  go_enter Tryd.func31, Tryd.ntmps31
  go_wp2_with fail
  (with_reducible refine HR.out.mono ?_)
  rintro e w2 ⟨rfl, hb2⟩
  have HB2 := Lib.hid (HB0.out.trans (hb2.mono HB0.out.size))
  clear hb2
  go_wp2_with fail
  go_ret
  exact ⟨⟨_, rfl⟩, HB2.out⟩
set_option maxRecDepth 100000 in
set_option maxHeartbeats 4000000 in
theorem light_any {f : Nat} (a : Option Addr) (c : Nat) (ss : List PS) (w : World) (hs : SsAt f w a ss) (hn : ss.length ≤ 1048576) :
    Calls Tryd.prog 11 #[.agg #[.slice a ss.length c]] w fun e w' => SomeB e ∧ Below w.heap.size w w' := by
  obtain ⟨W0, hW0⟩ : ∃ W0, W0 = w.alloc (.cells #[.slice a ss.length c] 25) := ⟨_, rfl⟩
  have hb0 : Below w.heap.size w W0 := by rw [hW0]; exact (Below.refl _ _).alloc (Nat.le_refl _) _
  have hk5 : W0.heap[w.heap.size]? = some (.cells #[.slice a ss.length c] 25 (0, 0)) := by rw [hW0]; exact heap_alloc_new w _
  have hsz0 : W0.heap.size = w.heap.size + 1 := by rw [hW0]; simp
  have HKS : Hid (∀ W, Below W0.heap.size W0 W → W.cell? ⟨w.heap.size, 0, none⟩ = some (.slice a ss.length c)) := Lib.hid fun W hW => by
    rw [cell_heap ((hW.block w.heap.size (by omega)).trans hk5)]; rfl
  have HB0 := Lib.hid hb0
  have HR := Lib.hid (weight_all f a c ss 0 _ (SsAt.below hs hb0) hn)
  have HV : Hid (∀ W, Below W0.heap.size W0 W → Calls Tryd.prog 31 #[.agg #[.slice a ss.length c], .int .i64 60] W fun e w' => SomeB e ∧ Below W.heap.size W w') := Lib.hid fun W hW => heavy_any a c ss W (SsAt.below hs (hb0.trans (hW.mono hb0.size))) hn
  have HW0E := Lib.hid hW0
  clear hs hb0 hW0 hk5 hsz0
  generalize ss.length = n at *
  generalize wtN (exN f) 0 ss = z at *
  go_enter Tryd.func11, Tryd.ntmps11
  go_wp2_with fail
  rw [← HW0E.out]
  have c0 := HKS.out W0 (Below.refl _ _)
  by_cases hz : z ≤ 60
  · go_wp2_with fail
    (with_reducible refine HR.out.mono ?_)
    rintro e w2 ⟨rfl, hb2⟩
    have c1 := HKS.out w2 hb2
    have HHV := Lib.hid (HV.out w2 hb2)
    have HB2 := Lib.hid (HB0.out.trans (hb2.mono HB0.out.size))
    clear hb2
    go_wp2_with fail
    (with_reducible refine HHV.out.mono ?_)
    rintro e w3 ⟨⟨b, rfl⟩, hb3⟩
    have HB3 := Lib.hid (HB2.out.trans (hb3.mono HB2.out.size))
    clear hb3
    go_wp2_with fail
    go_ret
    exact ⟨⟨_, rfl⟩, HB3.out⟩
  · have hz' : 60 < z := by omega
    go_wp2_with fail
    (with_reducible refine HR.out.mono ?_)
    rintro e w2 ⟨rfl, hb2⟩
    have HB2 := Lib.hid (HB0.out.trans (hb2.mono HB0.out.size))
    clear hb2
    go_wp2_with fail
    go_ret
    exact ⟨⟨_, rfl⟩, HB2.out⟩
end Go.Proofs.YtekoflcioooncaaDoor
