/-
  The law's fixed: an event that comes next; the answer's Take of what does not fit.
-/
import Derived.Test.YtmnloeolacmemaaGreatWpV
namespace Go.Proofs.YtmnloeolacmemaaGreat
open Go.RowKit

/-- the cells of an Op -/
def opC (o : Ev) (A : Option Addr) (m c : Nat) (va : Option Addr) (vn vc : Nat) (fx : Bool) : Array Value :=
  #[.int .i64 o.kind, .int .i64 o.num, .int .i64 o.dep, .string (strL o.name), .slice A m c, .string (strL o.text), .int .i64 o.fr, .int .i64 o.tt, .slice va vn vc, .bool fx]
theorem results_cellF {P : Program} {fn : Func} {p : Tmp} {ty : TypeId} (h : fn.results = #[.cell p ty]) (tmps : Array Value) (w : World) :
    (results fn tmps).run P w = ((asAddr (tmps.getD p undef)).run P w).andThen fun a w₁ => (loadVar ty a).run P w₁ := by
  simp only [results, h]
  simp [Sem.run_bind, Result.andThen]
/-- what fixed answers -/
def RetFixed (l : List ER) (o : Ev) (A : Option Addr) (m c : Nat) (r : Ending) : Prop :=
  ∃ num fr tt name, r = .returned (.agg (evC o.kind num o.dep name A m c o.text fr tt)) ∧ Wf num ∧ (name = o.name ∨ o.kind = 2 ∧ ∃ x ∈ l, name = x.e.name)
set_option maxRecDepth 1000000 in
set_option maxHeartbeats 4000000 in
theorem fixed_any {C : Nat → Nat} {w : World} {mb : Nat} {ev ov nv : Value} {l : List ER} {m : RSt} (h : RAt C w mb ev ov nv l m)
    (o : Ev) (A : Option Addr) (k c : Nat) (va : Option Addr) (vn vc : Nat) (fx : Bool) (hol : m.opn.length ≤ 1048576) (hop : ∀ i ∈ m.opn, i < m.evs.length) (hel : m.evs.length ≤ 1048576) (hw : Wf o.num) (hwn : Wf m.next) (hwl : ∀ x ∈ l, Wf x.e.num) :
    Calls Tryz.prog 11 #[.pointer (some ⟨mb, 0, none⟩), .agg (opC o A k c va vn vc fx)] w fun r w' => RetFixed l o A k c r ∧ Below w.heap.size w w' := by
  have HW := Lib.hid (⟨hw, hwn, hwl⟩ : _ ∧ _ ∧ _)
  have hwl' := heap_lt h.blk
  have HB3 : Hid (∀ o1 o2 o3, Below w.heap.size w (((w.alloc o1).alloc o2).alloc o3)) := Lib.hid fun o1 o2 o3 => (((Below.refl _ _).alloc (Nat.le_refl _) o1).alloc (by simp) o2).alloc (by simp; omega) o3
  cases fx with
  | false =>
    unfold opC
    go_enter Tryz.func11, Tryz.ntmps11
    go_wp2_with fail
    refine bodyPost_ret (v := .agg #[.int .i64 o.kind, .int .i64 o.num, .int .i64 o.dep, .string (strL o.name), .slice A k c, .string (strL o.text), .int .i64 o.fr, .int .i64 o.tt]) ?_ rfl ⟨⟨o.num, o.fr, o.tt, o.name, rfl, HW.out.1, .inl rfl⟩, HB3.out _ _ _⟩
    rw [results_cellF rfl]
    go_simp
  | true =>
    have hC : ∀ o1 o2 o3, (((w.alloc o1).alloc o2).alloc o3).cell? ⟨mb, 0, none⟩ = some ev ∧ (((w.alloc o1).alloc o2).alloc o3).cell? ⟨mb, 1, none⟩ = some ov ∧ (((w.alloc o1).alloc o2).alloc o3).cell? ⟨mb, 2, none⟩ = some (.int .i64 m.next) ∧ (((w.alloc o1).alloc o2).alloc o3).cell? ⟨mb, 3, none⟩ = some (.int .i64 m.last) := fun o1 o2 o3 => by
      obtain ⟨k0, k1, k2, k3, _, _⟩ := h.cells
      have hb := HB3.out o1 o2 o3
      exact ⟨(hb.cell (p := ⟨mb, 0, none⟩) hwl').trans k0, (hb.cell (p := ⟨mb, 1, none⟩) hwl').trans k1, (hb.cell (p := ⟨mb, 2, none⟩) hwl').trans k2, (hb.cell (p := ⟨mb, 3, none⟩) hwl').trans k3⟩
    have m0 := fun o1 o2 o3 => (hC o1 o2 o3).1
    have m1 := fun o1 o2 o3 => (hC o1 o2 o3).2.1
    have m2 := fun o1 o2 o3 => (hC o1 o2 o3).2.2.1
    have m3 := fun o1 o2 o3 => (hC o1 o2 o3).2.2.2
    have HH := Lib.hid h
    clear hC
    by_cases hk2 : o.kind = 2
    · obtain ⟨kd, nm, dp, na, ats, tx, fr0, tt0⟩ := o
      simp only at hk2 HW
      subst hk2
      by_cases hon : m.opn = []
      · have hl0 : ov = .slice (match ov with | .slice a _ _ => a | _ => none) 0 (match ov with | .slice _ _ c => c | _ => 0) := by
          have hq := h.opn
          rw [hon] at hq
          obtain ⟨a, c, rfl, _⟩ := hq.slice
          rfl
        obtain ⟨oa, oc, hov⟩ : ∃ oa oc, ov = .slice oa 0 oc := ⟨_, _, hl0⟩
        subst hov
        clear h hl0
        unfold opC
        go_enter Tryz.func11, Tryz.ntmps11
        go_wp2_with fail
        go_region
        go_wp2_with fail
        refine bodyPost_ret (v := .agg #[.int .i64 2, .int .i64 m.next, .int .i64 dp, .string (strL na), .slice A k c, .string (strL tx), .int .i64 (max (wrap64 (wrap64 (m.last + wrap64 (bits BinOp.and IntKind.i64 tt0 15 + 1)) - 3)) 0), .int .i64 (wrap64 (m.last + wrap64 (bits BinOp.and IntKind.i64 tt0 15 + 1)))]) ?_ rfl ⟨⟨m.next, _, _, na, rfl, HW.out.2.1, .inl rfl⟩, by first | exact (HB3.out _ _ _).drew | exact Below.drewN (HB3.out _ _ _) _⟩
        rw [results_cellF rfl]
        go_simp
      · have hq := h.opn.at1
        obtain ⟨oa, oc, rfl, _, hxl, hcell⟩ := hq
        obtain ⟨N, hN⟩ : ∃ N, m.opn.length = N := ⟨_, rfl⟩
        have hNp : 0 < N := by rw [← hN]; exact List.length_pos_iff.2 hon
        obtain ⟨M, hM⟩ : ∃ M, N = M + 1 := ⟨N - 1, by omega⟩
        have hMl : M < m.opn.length := by omega
        obtain ⟨g, off, rfl, hgl, k0⟩ := hcell M (by simp [natsV]; exact hMl)
        simp only [natsV, List.getElem_map] at k0
        have hii : m.opn[M] < m.evs.length := hop _ (List.getElem_mem hMl)
        generalize m.opn[M] = I at *
        have hIl : I < l.length := by rw [h.evm] at hii; simpa using hii
        have hmem : l[I] ∈ l := List.getElem_mem hIl
        obtain ⟨kk, hkk⟩ : ∃ kk, l.length = kk + 1 := ⟨l.length - 1, by omega⟩
        have hqe := h.evs
        rw [hkk] at hqe
        obtain ⟨g2, off2, c2, rfl, _, hg2, _, hc2⟩ := hqe.here
        have k8 := fun j (hj : j < 8) => hc2 (I * 8 + j) _ ((evRow_at l I hIl j hj).trans (List.getElem?_eq_getElem (by rw [evL_len]; exact hj)))
        have HD : Hid (∀ o1 o2 o3, (((w.alloc o1).alloc o2).alloc o3).cell? ⟨g, off + M, none⟩ = some (.int .i64 (I : Nat)) ∧ ∀ j (hj : j < 8), (((w.alloc o1).alloc o2).alloc o3).cell? ⟨g2, off2 + (I * 8 + j), none⟩ = some ((evL l[I].e l[I].A l[I].m l[I].c)[j]'(by rw [evL_len]; exact hj))) := Lib.hid fun o1 o2 o3 => by
          have hb := HB3.out o1 o2 o3
          exact ⟨(hb.cell (p := ⟨g, off + M, none⟩) hgl).trans k0, fun j hj => (hb.cell (p := ⟨g2, off2 + (I * 8 + j), none⟩) hg2).trans (k8 j hj)⟩
        have q0 := fun o1 o2 o3 => (HD.out o1 o2 o3).1
        have z0 := fun o1 o2 o3 => (HD.out o1 o2 o3).2 0 (by decide)
        have z1 := fun o1 o2 o3 => (HD.out o1 o2 o3).2 1 (by decide)
        have z2 := fun o1 o2 o3 => (HD.out o1 o2 o3).2 2 (by decide)
        have z3 := fun o1 o2 o3 => (HD.out o1 o2 o3).2 3 (by decide)
        have z4 := fun o1 o2 o3 => (HD.out o1 o2 o3).2 4 (by decide)
        have z5 := fun o1 o2 o3 => (HD.out o1 o2 o3).2 5 (by decide)
        have z6 := fun o1 o2 o3 => (HD.out o1 o2 o3).2 6 (by decide)
        have z7 := fun o1 o2 o3 => (HD.out o1 o2 o3).2 7 (by decide)
        simp only [evL, evC, ← Nat.add_assoc, Nat.add_zero, List.getElem_cons_zero, List.getElem_cons_succ] at z0 z1 z2 z3 z4 z5 z6 z7
        have i1 : (0 : Int) ≤ (M : Int) := by omega
        have i2 : (M : Int) < (N : Int) := by omega
        have i3 : (0 : Int) ≤ (I : Int) := by omega
        have i4 : (I : Int) < (l.length : Int) := by omega
        have ew : IntKind.i64.wrap ((N : Int) - 1) = (M : Int) := by rw [IntWalk.i64_in _ (by omega)]; omega
        have hp2 : (0 : Int) < (N : Int) := by omega
        have hwx := HW.out.2.2 _ hmem
        rw [hkk] at i4
        rw [hN] at m1
        obtain ⟨KK, hKK⟩ : ∃ KK, kk + 1 = KK := ⟨_, rfl⟩
        have m0' : ∀ o1 o2 o3, (((w.alloc o1).alloc o2).alloc o3).cell? ⟨mb, 0, none⟩ = some (.slice (some ⟨g2, off2, none⟩) KK c2) := fun o1 o2 o3 => by rw [← hKK]; exact m0 o1 o2 o3
        rw [hKK] at i4
        have HMEM := Lib.hid (⟨hmem, hwx⟩ : _ ∧ _)
        have HA4 : Hid (∀ o1 o2 o3 o4, Below w.heap.size w ((((w.alloc o1).alloc o2).alloc o3).alloc o4)) := Lib.hid fun o1 o2 o3 o4 => (HB3.out o1 o2 o3).alloc (HB3.out o1 o2 o3).size o4
        have hoc := fun (p : Addr) (v : Value) (hp : p.block < w.heap.size) (hv : w.cell? p = some v) o1 o2 o3 o4 => ((HA4.out o1 o2 o3 o4).cell (p := p) hp).trans hv
        have am0 := hoc ⟨mb, 0, none⟩ (.slice (some ⟨g2, off2, none⟩) KK c2) hwl' (by rw [← hKK]; exact h.cells.1)
        have am1 := hoc ⟨mb, 1, none⟩ (.slice (some ⟨g, off, none⟩) N oc) hwl' (by rw [← hN]; exact h.cells.2.1)
        have aq0 := hoc ⟨g, off + M, none⟩ _ hgl k0
        have az0 := hoc _ _ hg2 (k8 0 (by decide))
        have az1 := hoc _ _ hg2 (k8 1 (by decide))
        have az2 := hoc _ _ hg2 (k8 2 (by decide))
        have az3 := hoc _ _ hg2 (k8 3 (by decide))
        have az4 := hoc _ _ hg2 (k8 4 (by decide))
        have az5 := hoc _ _ hg2 (k8 5 (by decide))
        have az6 := hoc _ _ hg2 (k8 6 (by decide))
        have az7 := hoc _ _ hg2 (k8 7 (by decide))
        simp only [evL, evC, ← Nat.add_assoc, Nat.add_zero, List.getElem_cons_zero, List.getElem_cons_succ] at az0 az1 az2 az3 az4 az5 az6 az7
        clear hoc
        clear HD k8 hc2 hwx hmem m0 hqe
        generalize l[I] = er at *
        obtain ⟨⟨ek, x, ed, en, ea, et, y, ett⟩, eA, em, ec⟩ := er
        simp only at z0 z1 z2 z3 z4 z5 z6 z7 az0 az1 az2 az3 az4 az5 az6 az7 HMEM
        have HB4 : Hid (∀ o1 o2 o3 o4 d, Below w.heap.size w (((((w.alloc o1).alloc o2).alloc o3).drewN d).alloc o4)) := Lib.hid fun o1 o2 o3 o4 d => Below.alloc (Below.drewN (HB3.out o1 o2 o3) d) (HB3.out o1 o2 o3).size o4
        have HB5 : Hid (∀ o1 o2 o3 o4, Below w.heap.size w ((((w.alloc o1).alloc o2).alloc o3).alloc o4)) := Lib.hid fun o1 o2 o3 o4 => (HB3.out o1 o2 o3).alloc (HB3.out o1 o2 o3).size o4
        clear h k0 hcell hxl hon hM hkk hKK hMl hIl hii hNp hN
        unfold opC
        go_enter Tryz.func11, Tryz.ntmps11
        go_wp2_with fail
        go_region
        go_wp2_with fail
        go_region
        go_wp2_with fail
        refine bodyPost_ret (v := .agg #[.int .i64 2, .int .i64 x, .int .i64 dp, .string (strL en), .slice A k c, .string (strL tx), .int .i64 y, .int .i64 (wrap64 (m.last + wrap64 (bits BinOp.and IntKind.i64 tt0 15 + 1)))]) ?_ rfl ⟨⟨x, _, _, en, rfl, HMEM.out.2, .inr ⟨rfl, _, HMEM.out.1, rfl⟩⟩, by first | exact (HB5.out _ _ _ _).drew | exact (HB5.out _ _ _ _).drew.drew | exact Below.drewN (HB5.out _ _ _ _) _ | exact HB4.out _ _ _ _ _⟩
        rw [results_cellF rfl]
        go_simp
    · have ht : (o.kind == 2) = false := by simp [hk2]
      clear h hk2
      unfold opC
      go_enter Tryz.func11, Tryz.ntmps11
      go_wp2_with fail
      go_region
      go_wp2_with fail
      refine bodyPost_ret (v := .agg #[.int .i64 o.kind, .int .i64 m.next, .int .i64 o.dep, .string (strL o.name), .slice A k c, .string (strL o.text), .int .i64 (max (wrap64 (wrap64 (m.last + wrap64 (bits BinOp.and IntKind.i64 o.tt 15 + 1)) - 3)) 0), .int .i64 (wrap64 (m.last + wrap64 (bits BinOp.and IntKind.i64 o.tt 15 + 1)))]) ?_ rfl ⟨⟨m.next, _, _, o.name, rfl, HW.out.2.1, .inl rfl⟩, by first | exact (HB3.out _ _ _).drew | exact Below.drewN (HB3.out _ _ _) _⟩
      rw [results_cellF rfl]
      go_simp
end Go.Proofs.YtmnloeolacmemaaGreat
