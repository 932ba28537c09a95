/-
  gimletref22.Comes.
-/
import Derived.Test.YtmnloeolacmemaaGreatWpS
namespace Go.Proofs.YtmnloeolacmemaaGreat
open Go.RowKit

set_option maxRecDepth 1000000 in
set_option maxHeartbeats 4000000 in
theorem rcomes_any {C : Nat → Nat} {w : World} {mb : Nat} {ev ov nv : Value} {l : List ER} {m : RSt} (h : RAt C w mb ev ov nv l m)
    (kind num dep fr tt : Int) (name text : List UInt8) (A : Option Addr) (k c : Nat) (pc : List UInt8) (hol : m.opn.length ≤ 1048576) (hop : ∀ i ∈ m.opn, i < m.evs.length) (hel : m.evs.length ≤ 1048576) :
    Calls Tryz.prog 23 #[.pointer (some ⟨mb, 0, none⟩), .agg (evC kind num dep name A k c text fr tt)] w fun r w' => r = .returned (.bool (rcomes m ⟨kind, num, fr, tt, pc⟩)) ∧ Below w.heap.size w w' := by
  have hwl := heap_lt h.blk
  have HB : Hid (∀ o d, Below w.heap.size w ((w.alloc o).drewN d)) := Lib.hid fun o d => Below.drewN ((Below.refl _ _).alloc (Nat.le_refl _) o) d
  have HC : Hid (∀ o, (w.alloc o).cell? ⟨mb, 0, none⟩ = some ev ∧ (w.alloc o).cell? ⟨mb, 1, none⟩ = some ov ∧ (w.alloc o).cell? ⟨mb, 2, none⟩ = some (.int .i64 m.next) ∧ (w.alloc o).cell? ⟨mb, 3, none⟩ = some (.int .i64 m.last) ∧ (w.alloc o).cell? ⟨mb, 4, none⟩ = some (.bool m.opened)) := Lib.hid fun o => by
    obtain ⟨k0, k1, k2, k3, k4, _⟩ := h.cells
    have hb := (Below.refl w.heap.size w).alloc (Nat.le_refl _) o
    exact ⟨(hb.cell (p := ⟨mb, 0, none⟩) hwl).trans k0, (hb.cell (p := ⟨mb, 1, none⟩) hwl).trans k1, (hb.cell (p := ⟨mb, 2, none⟩) hwl).trans k2, (hb.cell (p := ⟨mb, 3, none⟩) hwl).trans k3, (hb.cell (p := ⟨mb, 4, none⟩) hwl).trans k4⟩
  obtain ⟨d0, d1, d2, d3, d4⟩ := HC.out (.cells (evC kind num dep name A k c text fr tt) 36)
  have HOP := Lib.hid (h.opn.at1)
  have HEV := Lib.hid (⟨h.evs, h.evm, hop⟩ : _ ∧ _ ∧ _)
  obtain ⟨la, lc, rfl, hlc⟩ := h.opn.slice
  obtain ⟨N, hN⟩ : ∃ N, m.opn.length = N := ⟨_, rfl⟩
  obtain ⟨r, hr⟩ : ∃ r, rcomes m ⟨kind, num, fr, tt, pc⟩ = r := ⟨_, rfl⟩
  rw [hr]
  simp only [rcomes] at hr
  rw [hN] at d1 hlc hol HC
  have HN := Lib.hid hN
  have hne : m.opn = [] ↔ N = 0 := by rw [← hN, List.length_eq_zero_iff]
  generalize m.next = nx at *
  generalize m.last = la' at *
  obtain ⟨od, hod⟩ : ∃ od, m.opened = od := ⟨_, rfl⟩
  rw [hod] at d4 hr HC
  clear h hN hod hop
  by_cases h1 : fr < 0
  · rw [if_pos (.inl h1)] at hr
    subst hr
    unfold evC at *
    go_enter Tryz.func23, Tryz.ntmps23
    go_wp2_with fail
    go_quiet (fail)
    go_wp2_with fail
    go_ret
    exact ⟨rfl, by first | exact HB.out _ _ | exact Below.drewN (HB.out _ _) _ | exact (HB.out _ _).alloc (HB.out _ _).size _⟩
  have h1' : 0 ≤ fr := by omega
  by_cases h2 : tt < fr
  · rw [if_pos (.inr (.inl h2))] at hr
    subst hr
    unfold evC at *
    go_enter Tryz.func23, Tryz.ntmps23
    go_wp2_with fail
    go_quiet (fail)
    go_wp2_with fail
    go_ret
    exact ⟨rfl, by first | exact HB.out _ _ | exact Below.drewN (HB.out _ _) _ | exact (HB.out _ _).alloc (HB.out _ _).size _⟩
  have h2' : fr ≤ tt := by omega
  by_cases h3 : tt < la'
  · rw [if_pos (.inr (.inr h3))] at hr
    subst hr
    unfold evC at *
    go_enter Tryz.func23, Tryz.ntmps23
    go_wp2_with fail
    go_quiet (fail)
    go_wp2_with fail
    go_ret
    exact ⟨rfl, by first | exact HB.out _ _ | exact Below.drewN (HB.out _ _) _ | exact (HB.out _ _).alloc (HB.out _ _).size _⟩
  have h3' : la' ≤ tt := by omega
  rw [if_neg (by omega)] at hr
  clear h1 h2 h3
  by_cases hk0 : kind = 0
  · subst hk0
    rw [if_pos rfl] at hr
    by_cases hn : num = nx
    · subst hn
      by_cases hN0 : N = 0
      · subst hN0
        cases od with
        | false =>
          have hr1 : r = true := by rw [← hr]; simp
          subst hr1
          clear hr
          unfold evC at *
          go_enter Tryz.func23, Tryz.ntmps23
          go_wp2_with fail
          go_quiet (fail)
          go_wp2_with fail
          go_quiet (fail)
          go_wp2_with fail
          go_ret
          exact ⟨rfl, by first | exact HB.out _ _ | exact Below.drewN (HB.out _ _) _ | exact (HB.out _ _).alloc (HB.out _ _).size _⟩
        | true =>
          have hr1 : r = false := by rw [← hr]; simp [hne.2 rfl]
          subst hr1
          clear hr
          unfold evC at *
          go_enter Tryz.func23, Tryz.ntmps23
          go_wp2_with fail
          go_quiet (fail)
          go_wp2_with fail
          go_quiet (fail)
          go_wp2_with fail
          go_ret
          exact ⟨rfl, by first | exact HB.out _ _ | exact Below.drewN (HB.out _ _) _ | exact (HB.out _ _).alloc (HB.out _ _).size _⟩
      · have hr1 : r = true := by rw [← hr]; simp [hne, hN0]
        subst hr1
        have hp : (0 : Int) < (N : Int) := by omega
        have hp2 : 0 < N := by omega
        clear hr
        unfold evC at *
        go_enter Tryz.func23, Tryz.ntmps23
        go_wp2_with fail
        go_quiet (fail)
        go_wp2_with fail
        go_quiet (fail)
        go_wp2_with fail
        go_ret
        exact ⟨rfl, by first | exact HB.out _ _ | exact Below.drewN (HB.out _ _) _ | exact (HB.out _ _).alloc (HB.out _ _).size _⟩
    · have hr1 : r = false := by rw [← hr]; simp [hn]
      subst hr1
      have ht : (num == nx) = false := by simp [hn]
      clear hr hn
      unfold evC at *
      go_enter Tryz.func23, Tryz.ntmps23
      go_wp2_with fail
      go_quiet (fail)
      go_wp2_with fail
      go_quiet (fail)
      go_wp2_with fail
      go_ret
      exact ⟨rfl, by first | exact HB.out _ _ | exact Below.drewN (HB.out _ _) _ | exact (HB.out _ _).alloc (HB.out _ _).size _⟩
  rw [if_neg hk0] at hr
  have ht0 : (kind == 0) = false := by simp [hk0]
  by_cases hk1 : kind = 1
  · subst hk1
    rw [if_pos rfl] at hr
    by_cases hn : num = nx
    · subst hn
      by_cases hN0 : N = 0
      · subst hN0
        have hr1 : r = false := by rw [← hr]; simp [hne.2 rfl]
        subst hr1
        clear hr
        unfold evC at *
        go_enter Tryz.func23, Tryz.ntmps23
        go_wp2_with fail
        go_quiet (fail)
        go_wp2_with fail
        go_quiet (fail)
        go_wp2_with fail
        go_ret
        exact ⟨rfl, by first | exact HB.out _ _ | exact Below.drewN (HB.out _ _) _ | exact (HB.out _ _).alloc (HB.out _ _).size _⟩
      · have hr1 : r = true := by rw [← hr]; simp [hne, hN0]
        subst hr1
        have hp : (0 : Int) < (N : Int) := by omega
        have hp2 : 0 < N := by omega
        clear hr
        unfold evC at *
        go_enter Tryz.func23, Tryz.ntmps23
        go_wp2_with fail
        go_quiet (fail)
        go_wp2_with fail
        go_quiet (fail)
        go_wp2_with fail
        go_ret
        exact ⟨rfl, by first | exact HB.out _ _ | exact Below.drewN (HB.out _ _) _ | exact (HB.out _ _).alloc (HB.out _ _).size _⟩
    · have hr1 : r = false := by rw [← hr]; simp [hn]
      subst hr1
      have ht : (num == nx) = false := by simp [hn]
      clear hr hn
      unfold evC at *
      go_enter Tryz.func23, Tryz.ntmps23
      go_wp2_with fail
      go_quiet (fail)
      go_wp2_with fail
      go_quiet (fail)
      go_wp2_with fail
      go_ret
      exact ⟨rfl, by first | exact HB.out _ _ | exact Below.drewN (HB.out _ _) _ | exact (HB.out _ _).alloc (HB.out _ _).size _⟩
  rw [if_neg hk1] at hr
  have ht1 : (kind == 1) = false := by simp [hk1]
  by_cases hk2 : kind = 2
  · subst hk2
    rw [if_pos rfl] at hr
    by_cases hN0 : N = 0
    · subst hN0
      have hr1 : r = false := by rw [← hr, hne.2 rfl]; rfl
      subst hr1
      clear hr
      unfold evC at *
      go_enter Tryz.func23, Tryz.ntmps23
      go_wp2_with fail
      go_quiet (fail)
      go_wp2_with fail
      go_ret
      exact ⟨rfl, by first | exact HB.out _ _ | exact Below.drewN (HB.out _ _) _ | exact (HB.out _ _).alloc (HB.out _ _).size _⟩
    · have hp : (0 : Int) < (N : Int) := by omega
      obtain ⟨M, hM⟩ : ∃ M, N = M + 1 := ⟨N - 1, by omega⟩
      have hMl : M < m.opn.length := by rw [HN.out]; omega
      obtain ⟨a1, c1, e1, _, hxl, hcell⟩ := HOP.out
      injection e1 with e1 _ _
      subst e1
      obtain ⟨g, off, rfl, hgl, k0⟩ := hcell M (by simp [natsV]; exact hMl)
      simp only [natsV, List.getElem_map] at k0
      have hii : m.opn[M] < m.evs.length := HEV.out.2.2 _ (List.getElem_mem hMl)
      have hlast : m.opn.getLast? = some m.opn[M] := by rw [List.getLast?_eq_getElem?, List.getElem?_eq_getElem (by omega)]; congr 1; simp only [HN.out, hM, Nat.add_sub_cancel]
      rw [hlast] at hr
      simp only at hr
      generalize m.opn[M] = I at *
      rw [List.getElem?_eq_getElem hii] at hr
      simp only at hr
      have hel2 := HEV.out.2.1
      have hIl : I < l.length := by rw [hel2] at hii; simpa using hii
      have hwo : m.evs[I] = wOf l[I].e := by simp only [hel2, List.getElem_map]
      rw [hwo] at hr
      obtain ⟨kk, hkk⟩ : ∃ kk, l.length = kk + 1 := ⟨l.length - 1, by omega⟩
      have hqe := HEV.out.1
      rw [hkk] at hqe
      obtain ⟨g2, off2, c2, rfl, _, hg2, _, hc2⟩ := hqe.here
      have k8 := fun j (hj : j < 8) => hc2 (I * 8 + j) _ ((evRow_at l I hIl j hj).trans (List.getElem?_eq_getElem (by rw [evL_len]; exact hj)))
      have HD : Hid (∀ o, (w.alloc o).cell? ⟨g, off + M, none⟩ = some (.int .i64 (I : Nat)) ∧ ∀ j (hj : j < 8), (w.alloc o).cell? ⟨g2, off2 + (I * 8 + j), none⟩ = some ((evL l[I].e l[I].A l[I].m l[I].c)[j]'(by rw [evL_len]; exact hj))) := Lib.hid fun o => by
        have hb := (Below.refl w.heap.size w).alloc (Nat.le_refl _) o
        exact ⟨(hb.cell (p := ⟨g, off + M, none⟩) hgl).trans k0, fun j hj => (hb.cell (p := ⟨g2, off2 + (I * 8 + j), none⟩) hg2).trans (k8 j hj)⟩
      obtain ⟨q0, q8⟩ := HD.out (.cells (evC 2 num dep name A k c text fr tt) 36)
      obtain ⟨z0, z1, z2, z3, z4, z5, z6, z7⟩ := (⟨q8 0 (by decide), q8 1 (by decide), q8 2 (by decide), q8 3 (by decide), q8 4 (by decide), q8 5 (by decide), q8 6 (by decide), q8 7 (by decide)⟩ : _ ∧ _ ∧ _ ∧ _ ∧ _ ∧ _ ∧ _ ∧ _)
      simp only [evL, evC, ← Nat.add_assoc, Nat.add_zero, List.getElem_cons_zero, List.getElem_cons_succ] at z0 z1 z2 z3 z4 z5 z6 z7
      have i1 : (0 : Int) ≤ (M : Int) := by omega
      have i2 : (M : Int) < (N : Int) := by omega
      have i3 : (0 : Int) ≤ (I : Int) := by omega
      have i4 : (I : Int) < (l.length : Int) := by omega
      have ew : IntKind.i64.wrap ((N : Int) - 1) = (M : Int) := by rw [IntWalk.i64_in _ (by omega)]; omega
      have hz : ((N : Int) == 0) = false := by simp; omega
      have hp2 : 0 < N := by omega
      rw [hkk] at i4
      simp only [wOf] at hr
      clear HD q8 k8 hc2 hwo hel2
      generalize l[I] = er at *
      obtain ⟨⟨ek, x, ed, en, ea, et, y, ett⟩, eA, em, ec⟩ := er
      simp only at z0 z1 z2 z3 z4 z5 z6 z7 hr
      obtain ⟨KK, hKK⟩ : ∃ KK, kk + 1 = KK := ⟨_, rfl⟩
      rw [hKK] at d0 i4
      clear k0 hcell hxl hqe hne hN0 hM hlast hkk hKK hMl hIl hii HOP
      by_cases hx : x = num
      · by_cases hy : y = fr
        · have hr1 : r = true := by rw [← hr]; simp [hx, hy]
          subst hr1
          subst hx
          subst hy
          clear hr
          unfold evC at *
          go_enter Tryz.func23, Tryz.ntmps23
          go_wp2_with fail
          go_quiet (fail)
          go_wp2_with fail
          go_region
          go_wp2_with fail
          go_ret
          exact ⟨rfl, by first | exact HB.out _ _ | exact Below.drewN (HB.out _ _) _ | exact (HB.out _ _).alloc (HB.out _ _).size _⟩
        · have hr1 : r = false := by rw [← hr]; simp [hy]
          subst hr1
          have ht : (fr == y) = false := by simp; omega
          clear hr hy
          unfold evC at *
          go_enter Tryz.func23, Tryz.ntmps23
          go_wp2_with fail
          go_quiet (fail)
          go_wp2_with fail
          go_region
          go_wp2_with fail
          go_ret
          exact ⟨rfl, by first | exact HB.out _ _ | exact Below.drewN (HB.out _ _) _ | exact (HB.out _ _).alloc (HB.out _ _).size _⟩
      · have hr1 : r = false := by rw [← hr]; simp [hx]
        subst hr1
        have ht : (num == x) = false := by simp; omega
        clear hr hx
        unfold evC at *
        go_enter Tryz.func23, Tryz.ntmps23
        go_wp2_with fail
        go_quiet (fail)
        go_wp2_with fail
        go_region
        go_wp2_with fail
        go_ret
        exact ⟨rfl, by first | exact HB.out _ _ | exact Below.drewN (HB.out _ _) _ | exact (HB.out _ _).alloc (HB.out _ _).size _⟩
  rw [if_neg hk2] at hr
  have ht2 : (kind == 2) = false := by simp [hk2]
  subst hr
  clear hk0 hk1 hk2
  unfold evC at *
  go_enter Tryz.func23, Tryz.ntmps23
  go_wp2_with fail
  go_quiet (fail)
  go_wp2_with fail
  go_ret
  exact ⟨rfl, by first | exact HB.out _ _ | exact Below.drewN (HB.out _ _) _ | exact (HB.out _ _).alloc (HB.out _ _).size _⟩
end Go.Proofs.YtmnloeolacmemaaGreat
