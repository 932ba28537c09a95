/-
  (*tree.Check).Take of a Close that may come.
-/
import Derived.Test.YtklpihaelaagpaaDoorLgT
import Derived.Test.YtklpihaelaagpaaDoorLgZA
namespace Go.Proofs.YtklpihaelaagpaaDoor
open Go.RowKit

set_option maxRecDepth 1000000 in
set_option maxHeartbeats 4000000 in
theorem take_close (R cb : Nat) (v : Value) (s : BegS) (en ed efr ett : Int) (ename etext : List UInt8) (A : Option Addr) (m c : Nat) (ats : List (List UInt8 × List UInt8)) (w : World) (h : Chk w R cb v s)
    (hb : begOk s ⟨2, en, ed, ename, ats, etext, efr, ett⟩ = true) (hA : AttrsAt w A m ats) :
    Calls Tryd.prog 28 #[.pointer (some ⟨cb, 0, none⟩), .agg (evC 2 en ed ename A m c etext efr ett)] w fun e w' => ∃ v', e = .returned (.bool true) ∧ Chk w' R cb v' (begNext s ⟨2, en, ed, ename, ats, etext, efr, ett⟩) ∧ Moved cb v v' w w' := by
  have hb' : etext = [] ∧ ats = [] ∧ s.opn.head? = some (en, ed, ename) := by
    unfold begOk at hb
    rw [if_neg (by simp), if_neg (by simp), if_pos rfl] at hb
    simpa only [decide_eq_true_eq] using hb
  obtain ⟨rfl, rfl, hhd⟩ := hb'
  have hm0 : m = 0 := hA.1
  subst hm0
  obtain ⟨rest, hr⟩ : ∃ rest, s.opn = (en, ed, ename) :: rest := by
    cases ho : s.opn with
    | nil => rw [ho] at hhd; cases hhd
    | cons a r => rw [ho] at hhd; simp at hhd; exact ⟨r, by rw [hhd]⟩
  have hlt := h.lt
  have hle := h.le
  obtain ⟨s', hs'⟩ : ∃ s', s' = begNext s ⟨2, en, ed, ename, [], [], efr, ett⟩ := ⟨_, rfl⟩
  have HS' : Hid (s'.opn = rest ∧ s'.next = s.next ∧ s'.text = false ∧ s'.cnt = s.cnt + 1) := Lib.hid (by rw [hs']; exact ⟨by simp [begNext, hr], by simp [begNext], by simp [begNext], rfl⟩)
  rw [← hs']
  clear hs' hb hhd
  obtain ⟨on, hon⟩ : ∃ on, rest.length = on := ⟨_, rfl⟩
  have hown := h.own
  rw [hr, List.length_cons, hon] at hown
  obtain ⟨g, oc, rfl, hoc, hRg, hgw, _, hcells⟩ := own_some hown
  have hcell : ∀ j, j < 8 → w.cell? ⟨g, 0 + on * 8 + j, none⟩ = (ckRow (en, ed, ename))[j]? := fun j hj => by
    have h1 : (ckRow (en, ed, ename)).length = 8 := rfl
    have h2 := ckC_top (en, ed, ename) rest j hj
    rw [hon] at h2
    rw [Nat.zero_add, List.getElem?_eq_getElem (by rw [h1]; exact hj)]
    exact hcells _ _ (by rw [h2, List.getElem?_eq_getElem (by rw [h1]; exact hj)])
  have hat := h.at'
  have hdone : decide (s.opn = [] ∧ s.cnt ≠ 0) = false := by rw [hr]; simp
  rw [hdone] at hat
  have c0 := cell_heap (i := 0) hat
  have c1 := cell_heap (i := 1) hat
  have c2 := cell_heap (i := 2) hat
  have c3 := cell_heap (i := 3) hat
  simp only [List.getElem?_toArray, List.getElem?_cons_zero, List.getElem?_cons_succ] at c0 c1 c2 c3
  have hcbw : cb < w.heap.size := by omega
  have hsm := h.sm
  have hsml : on + 1 ≤ 1048576 := by have := hsm.1; rw [hr, List.length_cons, hon] at this; exact this
  have HCL : Hid (∀ W, Below w.heap.size w W → Calls Tryd.prog 48 #[.pointer (some ⟨cb, 0, none⟩), .agg (evC 2 en ed ename A 0 c [] efr ett)] W fun e w' => e = .returned (.bool true) ∧ Below W.heap.size W w') := Lib.hid fun W hW => by
    have k := fun j (hj : j < 8) => (hW.cell (p := ⟨g, 0 + on * 8 + j, none⟩) hgw).trans (hcell j hj)
    have := closes_any cb g 0 on oc en ed ename 2 en ed efr ett ename [] A 0 c W ((hW.cell (p := ⟨cb, 0, none⟩) hcbw).trans c0) (Nat.lt_of_lt_of_le hcbw hW.size) (Nat.lt_of_lt_of_le hgw hW.size) (by omega) (k 0 (by decide)) (k 1 (by decide)) (k 2 (by decide)) (k 3 (by decide)) (k 4 (by decide)) (k 5 (by decide)) (k 6 (by decide)) (k 7 (by decide))
    have hcl : closeB en ed ename en ed ename [] 0 = true := by simp [closeB]
    rw [hcl] at this
    exact this
  have HH := Lib.hid h
  have HAT := Lib.hid hat
  have HOW := Lib.hid hown
  unfold evC at *
  generalize strL [] = X at *
  generalize strL ename = N at *
  have HN1 : Hid (∀ o, Below w.heap.size w (w.alloc o) ∧ (w.alloc o).heap[w.heap.size]? = some o ∧ (w.alloc o).heap.size = w.heap.size + 1) := Lib.hid fun o => ⟨(Below.refl w.heap.size w).alloc (Nat.le_refl _) _, heap_alloc_new w _, by simp⟩
  have k3 := fun o => ((HN1.out o).1.cell (p := ⟨cb, 3, none⟩) hcbw).trans c3
  have HCBW := Lib.hid hcbw
  have HC := Lib.hid (⟨c0, c1, c2, c3⟩ : _ ∧ _ ∧ _ ∧ _)
  have HHL := Lib.hid hle
  have HLT := Lib.hid hlt
  have HR := Lib.hid hr
  have HG := Lib.hid (⟨hRg, hgw⟩ : _ ∧ _)
  have HON := Lib.hid hon
  clear hat hdone hA c0 c1 c2 c3 hcbw hle hlt hr hown hcells hcell hRg hgw h hon
  have ew : IntKind.i64.wrap ((on : Int) + 1 - 1) = (on : Int) := by rw [IntWalk.i64_in _ (by omega)]; omega
  go_enter Tryd.func28, Tryd.ntmps28
  go_wp2_with fail
  (with_reducible refine (HCL.out _ (HN1.out _).1).mono ?_)
  rintro e w2 ⟨rfl, hb2⟩
  have HB := Lib.hid ((HN1.out _).1.trans (hb2.mono (HN1.out _).1.size))
  have HEB := Lib.hid ((hb2.block w.heap.size (by rw [(HN1.out _).2.2]; omega)).trans (HN1.out _).2.1)
  have HCB := Lib.hid ((HB.out.block cb HCBW.out).trans HAT.out)
  have c0 := (HB.out.cell (p := ⟨cb, 0, none⟩) HCBW.out).trans HC.out.1
  have c2 := (HB.out.cell (p := ⟨cb, 2, none⟩) HCBW.out).trans HC.out.2.2.1
  have c3 := (HB.out.cell (p := ⟨cb, 3, none⟩) HCBW.out).trans HC.out.2.2.2
  have fz : ∀ j, w2.frozen? ⟨cb, j, none⟩ = false := fun j => frozen_heap HCB.out
  have e0 : w2.cell? ⟨w.heap.size, 0, none⟩ = some (.int .i64 2) := by rw [cell_heap HEB.out]; rfl
  have hebcb : cb ≠ w.heap.size := Nat.ne_of_lt HCBW.out
  clear k3 hb2
  go_wp2_with fail
  go_region
  go_wp2_with fail
  go_ret
  obtain ⟨q1, q2, q3, q4⟩ := HS'.out
  have hM := (((Moved.of (cb := cb) (v := .slice (some ⟨g, 0, none⟩) (on + 1) oc) HB.out).set 2 (.bool false)).set 0 (.slice (some ⟨g, 0, none⟩) on oc))
  refine ⟨.slice (some ⟨g, 0, none⟩) on oc, rfl, ⟨HLT.out, ?_, ?_, ?_, ?_, ?_⟩, ?_⟩
  · have := HB.out.size
    have := HHL.out
    simp [World.setCell]
    omega
  · have hd : decide (s'.opn = [] ∧ s'.cnt ≠ 0) = ((on : Int) == 0) := by
      rw [q1, q4, ← HON.out]
      cases rest with
      | nil => simp
      | cons a r => simp; omega
    rw [q2, q3, hd]
    exact setCell_heap (setCell_heap (setCell_heap HCB.out (.bool false)) (.slice (some ⟨g, 0, none⟩) on oc)) (.bool ((on : Int) == 0))
  · rw [q1, HON.out]
    have h0 := HOW.out
    rw [ckC_cons] at h0
    have h1 := own_pop h0 (by rw [ckC_length, HON.out])
    exact own_block h1 (fun k hk => by
      have hk2 : k ≠ cb := fun e => by have := (h1.lt k hk).1; have := HLT.out; omega
      show (((w2.setCell _ _).setCell _ _).setCell _ _).heap[k]? = _
      rw [Below.heap_setCell _ _ _ _ hk2, Below.heap_setCell _ _ _ _ hk2, Below.heap_setCell _ _ _ _ hk2]
      exact HB.out.block k (h1.lt k hk).2)
  · rw [q4]; intro h; omega
  · rw [q1, q2, HON.out]; omega
  · have hM2 := (hM.set 3 (.bool ((on : Int) == 0))).drewN 1
    exact ⟨hM2.os, hM2.tape, hM2.output, hM2.size, hM2.block, .inl rfl⟩
end Go.Proofs.YtklpihaelaagpaaDoor

namespace Go.Proofs.YtklpihaelaagpaaDoor
open Go.RowKit

def EvSm (e : Ev) : Prop := e.name.length ≤ 1048576 ∧ e.text.length ≤ 1048576 ∧ e.ats.length ≤ 1048576 ∧ ∀ p ∈ e.ats, p.1.length ≤ 1048576 ∧ p.2.length ≤ 1048576
theorem take_ok (R cb : Nat) (v : Value) (s : BegS) (e : Ev) (A : Option Addr) (m c : Nat) (w : World) (h : Chk w R cb v s) (hb : begOk s e = true) (hA : AttrsAt w A m e.ats) (hsm : EvSm e)
    (hcap : s.opn.length < 1048576 ∧ s.next < 1048576) (hR : RangesAt w 2) (hT : Lib.Utf8Tabs 0 1 w) :
    Calls Tryd.prog 28 #[.pointer (some ⟨cb, 0, none⟩), .agg (evC e.kind e.num e.dep e.name A m c e.text e.fr e.tt)] w fun r w' => ∃ v', r = .returned (.bool true) ∧ Chk w' R cb v' (begNext s e) ∧ Moved cb v v' w w' := by
  obtain ⟨kd, num, dep, name, ats, text, fr, tt⟩ := e
  obtain ⟨s1, s2, s3, s4⟩ := hsm
  simp only at *
  by_cases h2 : kd = 2
  · subst h2
    exact take_close R cb v s num dep fr tt name text A m c ats w h hb hA
  · rcases (begOk_new hb h2).2 with h0 | h1
    · simp only at h0
      subst h0
      exact take_open R cb v s num dep fr tt name text A m c ats w h hb hA s1 s4 (by rw [hA.1]; exact s3) hcap hR hT
    · simp only at h1
      subst h1
      exact take_text R cb v s num dep fr tt name text A m c ats w h hb hA s2 hcap.2 hR hT
theorem infoInt : (Tryd.prog.info? 3).map (fun i => (i.zero, i.size, i.bytes)) = some (some (.int .i64 0), 1, 8) := by kernel_rfl
end Go.Proofs.YtklpihaelaagpaaDoor
