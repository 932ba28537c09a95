/-
  (*tree.Check).Take of a Close that may come.
-/
import Derived.Test.YtekoflcioooncaaDoorMxG
import Derived.Test.YtekoflcioooncaaDoorMxL
import Derived.Test.YtekoflcioooncaaDoorMxI
namespace Go.Proofs.YtekoflcioooncaaDoor
open Go.RowKit

set_option maxRecDepth 1000000 in
set_option maxHeartbeats 4000000 in
theorem take_close (R cb : Nat) (v : Value) (s : BegS) (en ed efr ett : Int) (ename etext : List UInt8) (A : Option Addr) (m c : Nat) (ats : List (List UInt8 × List UInt8)) (w : World) (h : Chk w R cb v s)
    (hb : begOk s ⟨2, en, ed, ename, ats, etext, efr, ett⟩ = true) (hA : AttrsAt w A m ats) :
    Calls Tryd.prog 28 #[.pointer (some ⟨cb, 0, none⟩), .agg (evC 2 en ed ename A m c etext efr ett)] w fun e w' => ∃ v', e = .returned (.bool true) ∧ Chk w' R cb v' (begNext s ⟨2, en, ed, ename, ats, etext, efr, ett⟩) ∧ Moved cb v v' w w' := by
  have hb' : etext = [] ∧ ats = [] ∧ s.opn.head? = some (en, ed, ename) := by
    unfold begOk at hb
    rw [if_neg (by simp), if_neg (by simp), if_pos rfl] at hb
    simpa only [decide_eq_true_eq] using hb
  obtain ⟨rfl, rfl, hhd⟩ := hb'
  have hm0 : m = 0 := hA.1
  subst hm0
  obtain ⟨rest, hr⟩ : ∃ rest, s.opn = (en, ed, ename) :: rest := by
    cases ho : s.opn with
    | nil => rw [ho] at hhd; cases hhd
    | cons a r => rw [ho] at hhd; simp at hhd; exact ⟨r, by rw [hhd]⟩
  have hlt := h.lt
  have hle := h.le
  obtain ⟨s', hs'⟩ : ∃ s', s' = begNext s ⟨2, en, ed, ename, [], [], efr, ett⟩ := ⟨_, rfl⟩
  have HS' : Hid (s'.opn = rest ∧ s'.next = s.next ∧ s'.text = false ∧ s'.cnt = s.cnt + 1) := Lib.hid (by rw [hs']; exact ⟨by simp [begNext, hr], by simp [begNext], by simp [begNext], rfl⟩)
  rw [← hs']
  clear hs' hb hhd
  obtain ⟨on, hon⟩ : ∃ on, rest.length = on := ⟨_, rfl⟩
  have hown := h.own
  rw [hr, List.length_cons, hon] at hown
  obtain ⟨g, oc, rfl, hoc, hRg, hgw, _, hcells⟩ := own_some hown
  have hcell : ∀ j, j < 8 → w.cell? ⟨g, 0 + on * 8 + j, none⟩ = (ckRow (en, ed, ename))[j]? := fun j hj => by
    have h1 : (ckRow (en, ed, ename)).length = 8 := rfl
    have h2 := ckC_top (en, ed, ename) rest j hj
    rw [hon] at h2
    rw [Nat.zero_add, List.getElem?_eq_getElem (by rw [h1]; exact hj)]
    exact hcells _ _ (by rw [h2, List.getElem?_eq_getElem (by rw [h1]; exact hj)])
  have hat := h.at'
  have hdone : decide (s.opn = [] ∧ s.cnt ≠ 0) = false := by rw [hr]; simp
  rw [hdone] at hat
  have c0 := cell_heap (i := 0) hat
  have c1 := cell_heap (i := 1) hat
  have c2 := cell_heap (i := 2) hat
  have c3 := cell_heap (i := 3) hat
  simp only [List.getElem?_toArray, List.getElem?_cons_zero, List.getElem?_cons_succ] at c0 c1 c2 c3
  have hcbw : cb < w.heap.size := by omega
  have hsm := h.sm
  have hsml : on + 1 ≤ 1048576 := by have := hsm.1; rw [hr, List.length_cons, hon] at this; exact this
  have HCL : Hid (∀ W, Below w.heap.size w W → Calls Tryd.prog 56 #[.pointer (some ⟨cb, 0, none⟩), .agg (evC 2 en ed ename A 0 c [] efr ett)] W fun e w' => e = .returned (.bool true) ∧ Below W.heap.size W w') := Lib.hid fun W hW => by
    have k := fun j (hj : j < 8) => (hW.cell (p := ⟨g, 0 + on * 8 + j, none⟩) hgw).trans (hcell j hj)
    have := closes_any cb g 0 on oc en ed ename 2 en ed efr ett ename [] A 0 c W ((hW.cell (p := ⟨cb, 0, none⟩) hcbw).trans c0) (Nat.lt_of_lt_of_le hcbw hW.size) (Nat.lt_of_lt_of_le hgw hW.size) (by omega) (k 0 (by decide)) (k 1 (by decide)) (k 2 (by decide)) (k 3 (by decide)) (k 4 (by decide)) (k 5 (by decide)) (k 6 (by decide)) (k 7 (by decide))
    have hcl : closeB en ed ename en ed ename [] 0 = true := by simp [closeB]
    rw [hcl] at this
    exact this
  have HH := Lib.hid h
  have HAT := Lib.hid hat
  have HOW := Lib.hid hown
  unfold evC at *
  generalize strL [] = X at *
  generalize strL ename = N at *
  have HN1 : Hid (∀ o, Below w.heap.size w (w.alloc o) ∧ (w.alloc o).heap[w.heap.size]? = some o ∧ (w.alloc o).heap.size = w.heap.size + 1) := Lib.hid fun o => ⟨(Below.refl w.heap.size w).alloc (Nat.le_refl _) _, heap_alloc_new w _, by simp⟩
  have k3 := fun o => ((HN1.out o).1.cell (p := ⟨cb, 3, none⟩) hcbw).trans c3
  have HCBW := Lib.hid hcbw
  have HC := Lib.hid (⟨c0, c1, c2, c3⟩ : _ ∧ _ ∧ _ ∧ _)
  have HHL := Lib.hid hle
  have HLT := Lib.hid hlt
  have HR := Lib.hid hr
  have HG := Lib.hid (⟨hRg, hgw⟩ : _ ∧ _)
  have HON := Lib.hid hon
  clear hat hdone hA c0 c1 c2 c3 hcbw hle hlt hr hown hcells hcell hRg hgw h hon
  have ew : IntKind.i64.wrap ((on : Int) + 1 - 1) = (on : Int) := by rw [IntWalk.i64_in _ (by omega)]; omega
  go_enter Tryd.func28, Tryd.ntmps28
  go_wp2_with fail
  (with_reducible refine (HCL.out _ (HN1.out _).1).mono ?_)
  rintro e w2 ⟨rfl, hb2⟩
  have HB := Lib.hid ((HN1.out _).1.trans (hb2.mono (HN1.out _).1.size))
  have HEB := Lib.hid ((hb2.block w.heap.size (by rw [(HN1.out _).2.2]; omega)).trans (HN1.out _).2.1)
  have HCB := Lib.hid ((HB.out.block cb HCBW.out).trans HAT.out)
  have c0 := (HB.out.cell (p := ⟨cb, 0, none⟩) HCBW.out).trans HC.out.1
  have c2 := (HB.out.cell (p := ⟨cb, 2, none⟩) HCBW.out).trans HC.out.2.2.1
  have c3 := (HB.out.cell (p := ⟨cb, 3, none⟩) HCBW.out).trans HC.out.2.2.2
  have fz : ∀ j, w2.frozen? ⟨cb, j, none⟩ = false := fun j => frozen_heap HCB.out
  have e0 : w2.cell? ⟨w.heap.size, 0, none⟩ = some (.int .i64 2) := by rw [cell_heap HEB.out]; rfl
  have hebcb : cb ≠ w.heap.size := Nat.ne_of_lt HCBW.out
  clear k3 hb2
  go_wp2_with fail
  go_region
  go_wp2_with fail
  go_ret
  obtain ⟨q1, q2, q3, q4⟩ := HS'.out
  have hM := (((Moved.of (cb := cb) (v := .slice (some ⟨g, 0, none⟩) (on + 1) oc) HB.out).set 2 (.bool false)).set 0 (.slice (some ⟨g, 0, none⟩) on oc))
  refine ⟨.slice (some ⟨g, 0, none⟩) on oc, rfl, ⟨HLT.out, ?_, ?_, ?_, ?_, ?_⟩, ?_⟩
  · have := HB.out.size
    have := HHL.out
    simp [World.setCell]
    omega
  · have hd : decide (s'.opn = [] ∧ s'.cnt ≠ 0) = ((on : Int) == 0) := by
      rw [q1, q4, ← HON.out]
      cases rest with
      | nil => simp
      | cons a r => simp; omega
    rw [q2, q3, hd]
    exact setCell_heap (setCell_heap (setCell_heap HCB.out (.bool false)) (.slice (some ⟨g, 0, none⟩) on oc)) (.bool ((on : Int) == 0))
  · rw [q1, HON.out]
    have h0 := HOW.out
    rw [ckC_cons] at h0
    have h1 := own_pop h0 (by rw [ckC_length, HON.out])
    exact own_block h1 (fun k hk => by
      have hk2 : k ≠ cb := fun e => by have := (h1.lt k hk).1; have := HLT.out; omega
      show (((w2.setCell _ _).setCell _ _).setCell _ _).heap[k]? = _
      rw [Below.heap_setCell _ _ _ _ hk2, Below.heap_setCell _ _ _ _ hk2, Below.heap_setCell _ _ _ _ hk2]
      exact HB.out.block k (h1.lt k hk).2)
  · rw [q4]; intro h; omega
  · rw [q1, q2, HON.out]; omega
  · have hM2 := (hM.set 3 (.bool ((on : Int) == 0))).drewN 1
    exact ⟨hM2.os, hM2.tape, hM2.output, hM2.size, hM2.block, .inl rfl⟩
end Go.Proofs.YtekoflcioooncaaDoor

namespace Go.Proofs.YtekoflcioooncaaDoor
open Go.RowKit

def EvSm (e : Ev) : Prop := e.name.length ≤ 1048576 ∧ e.text.length ≤ 1048576 ∧ e.ats.length ≤ 1048576 ∧ ∀ p ∈ e.ats, p.1.length ≤ 1048576 ∧ p.2.length ≤ 1048576
theorem take_ok (R cb : Nat) (v : Value) (s : BegS) (e : Ev) (A : Option Addr) (m c : Nat) (w : World) (h : Chk w R cb v s) (hb : begOk s e = true) (hA : AttrsAt w A m e.ats) (hsm : EvSm e)
    (hcap : s.opn.length < 1048576 ∧ s.next < 1048576) (hR : RangesAt w 2) (hT : Lib.Utf8Tabs 0 1 w) :
    Calls Tryd.prog 28 #[.pointer (some ⟨cb, 0, none⟩), .agg (evC e.kind e.num e.dep e.name A m c e.text e.fr e.tt)] w fun r w' => ∃ v', r = .returned (.bool true) ∧ Chk w' R cb v' (begNext s e) ∧ Moved cb v v' w w' := by
  obtain ⟨kd, num, dep, name, ats, text, fr, tt⟩ := e
  obtain ⟨s1, s2, s3, s4⟩ := hsm
  simp only at *
  by_cases h2 : kd = 2
  · subst h2
    exact take_close R cb v s num dep fr tt name text A m c ats w h hb hA
  · rcases (begOk_new hb h2).2 with h0 | h1
    · simp only at h0
      subst h0
      exact take_open R cb v s num dep fr tt name text A m c ats w h hb hA s1 s4 (by rw [hA.1]; exact s3) hcap hR hT
    · simp only at h1
      subst h1
      exact take_text R cb v s num dep fr tt name text A m c ats w h hb hA s2 hcap.2 hR hT
theorem BInv.start {wc : World} {cb n : Nat} {evs : List Ev} (hcb : cb < wc.heap.size) (hc : wc.heap[cb]? = some (.cells #[.slice none 0 0, .int .i64 0, .bool false, .bool false] 74 (0, 0))) (W : World)
    (hW : W = (wc.alloc (.cells #[.slice (some ⟨cb + 1, 0, none⟩) n n, .slice none 0 0] 78)).alloc (.cells #[.int .i64 (-1)] 3)) :
    BInv wc cb (cb + 1) n evs beg0 beg0 [] (.slice none 0 0) (.slice none 0 0) (.slice (some ⟨wc.heap.size + 1, 0, none⟩) 1 1) W := by
  subst hW
  have hsz : ((wc.alloc (.cells #[.slice (some ⟨cb + 1, 0, none⟩) n n, .slice none 0 0] 78)).alloc (.cells #[.int .i64 (-1)] 3)).heap.size = wc.heap.size + 2 := by simp
  have hblk : ∀ j, j < wc.heap.size → ((wc.alloc (.cells #[.slice (some ⟨cb + 1, 0, none⟩) n n, .slice none 0 0] 78)).alloc (.cells #[.int .i64 (-1)] 3)).heap[j]? = wc.heap[j]? := fun j hj => (Below.heap_alloc _ _ _ (by simp; omega)).trans (Below.heap_alloc _ _ _ hj)
  refine ⟨rfl, rfl, rfl, by omega, fun j hj _ => hblk j hj, ⟨by omega, by omega, (hblk cb hcb).trans hc, World.ownsRow_nil _ _ _ _, fun _ => rfl, by decide⟩, (Below.heap_alloc _ _ _ (by simp)).trans (heap_alloc_new wc _), ⟨[], World.ownsRow_nil _ _ _ _, fun i x h => by simp at h⟩, ?_⟩
  have := World.ownsRow_lit (base := wc.heap.size + 1) (e := 3) (size := 1) (wc.alloc (.cells #[.slice (some ⟨cb + 1, 0, none⟩) n n, .slice none 0 0] 78)) #[.int .i64 (-1)] 1 (by simp) (by unfold maxLen; omega) rfl
  have e1 : beg0.opn.length + 1 = 1 := rfl
  have e2 : opC beg0.opn = [.int .i64 (-1)] := rfl
  rw [e1, e2]
  simpa using this
theorem done_any (cb : Nat) (d : Bool) (w : World) (h : w.cell? ⟨cb, 3, none⟩ = some (.bool d)) : Calls Tryd.prog 29 #[.pointer (some ⟨cb, 0, none⟩)] w fun e w' => e = .returned (.bool d) ∧ w' = w := by
  go_enter Tryd.func29, Tryd.ntmps29
  go_wp2_with fail
  go_ret
  exact ⟨rfl, rfl⟩
structure TreeAt (w : World) (B tb : Nat) (evs : List Ev) : Prop where
  lt : tb < w.heap.size
  le : B ≤ tb
  at' : ∃ (ge n : Nat) (an : Option Addr) (cn : Nat), w.heap[tb]? = some (.cells #[.slice (some ⟨ge, 0, none⟩) n n, .slice an (nodesB evs).length cn] 78 (0, 0)) ∧ n = evs.length ∧ (nodesB evs).length ≤ cn ∧ B ≤ ge ∧ ge < w.heap.size ∧
    (∀ i, (h : i < evs.length) → ∃ (A : Option Addr) (m c : Nat), m ≤ c ∧ AttrsAt w A m evs[i].ats ∧ (∀ ad, A = some ad → B ≤ ad.block) ∧ ∀ j, j < 8 → w.cell? ⟨ge, i * 8 + j, none⟩ = (evL evs[i] A m c)[j]?) ∧
    ∀ i x, (nodesB evs)[i]? = some x → ∃ (b : Nat) (e : Ev) (A : Option Addr) (m c : Nat), an = some ⟨b, 0, none⟩ ∧ B ≤ b ∧ b < w.heap.size ∧ evs[x.pos]? = some e ∧ m ≤ c ∧ AttrsAt w A m e.ats ∧ (∀ ad, A = some ad → B ≤ ad.block) ∧ ∀ j, j < 12 → w.cell? ⟨b, i * 12 + j, none⟩ = (ndL e x A m c)[j]?
theorem TreeAt.keep {w w' : World} {B tb : Nat} {evs : List Ev} (h : TreeAt w B tb evs) (hs : w.heap.size ≤ w'.heap.size) (hk : ∀ j, B ≤ j → j < w.heap.size → w'.heap[j]? = w.heap[j]?) : TreeAt w' B tb evs := by
  obtain ⟨h1, h2, ge, n, an, cn, h3, h4, h5, h6, h7, h8, h9⟩ := h
  have hc : ∀ b j, B ≤ b → b < w.heap.size → w'.cell? ⟨b, j, none⟩ = w.cell? ⟨b, j, none⟩ := fun b j g1 g2 => by simp only [World.cell?, hk b g1 g2]
  refine ⟨by omega, h2, ge, n, an, cn, (hk tb h2 h1).trans h3, h4, h5, h6, by omega, fun i hi => ?_, fun i x hx => ?_⟩
  · obtain ⟨A, m, c, g1, g2, g3, g4⟩ := h8 i hi
    exact ⟨A, m, c, g1, g2.keep hs fun b o e hlt => hk b (g3 _ e) hlt, g3, fun j hj => (hc ge _ h6 h7).trans (g4 j hj)⟩
  · obtain ⟨b, e, A, m, c, g1, g2, g3, g4, g5, g6, g7, g8⟩ := h9 i x hx
    exact ⟨b, e, A, m, c, g1, g2, by omega, g4, g5, g6.keep hs fun b o e hlt => hk b (g7 _ e) hlt, g7, fun j hj => (hc b _ g2 g3).trans (g8 j hj)⟩
theorem BInv.toBelow {w wc W : World} {ge n : Nat} {evs : List Ev} {sC s : BegS} {nds : List Nd} {vC vN vO : Value} (h : BInv wc w.heap.size ge n evs sC s nds vC vN vO W) (hb : Below w.heap.size w wc) : Below w.heap.size w W :=
  hb.trans ⟨h.os, h.tape, h.output, by have := h.size; omega, fun k hk => h.block k (by have := hb.size; omega) (by omega)⟩
theorem BInv.attrs {wc W : World} {cb ge n : Nat} {evs : List Ev} {sC s : BegS} {nds : List Nd} {vC vN vO : Value} (h : BInv wc cb ge n evs sC s nds vC vN vO W) {A : Option Addr} {m : Nat} {ats : List (List UInt8 × List UInt8)} (hA : AttrsAt wc A m ats) (hne : ∀ ad, A = some ad → cb < ad.block) : AttrsAt W A m ats :=
  hA.keep (by have := h.size; omega) fun b o e hlt => h.block b hlt (by have := hne _ e; simp only at this; omega)
theorem BInv.same {wc W : World} {cb ge n : Nat} {evs : List Ev} {sC s s' : BegS} {nds : List Nd} {vC vN vO : Value} (h : BInv wc cb ge n evs sC s nds vC vN vO W) (hs : s'.opn = s.opn) : BInv wc cb ge n evs sC s' nds vC vN vO W :=
  ⟨h.os, h.tape, h.output, h.size, h.block, h.chk, h.tree, h.nds', by rw [hs]; exact h.opn⟩
theorem infoInt : (Tryd.prog.info? 3).map (fun i => (i.zero, i.size, i.bytes)) = some (some (.int .i64 0), 1, 8) := by kernel_rfl
set_option maxRecDepth 1000000 in
set_option maxHeartbeats 4000000 in
theorem build_ok (a : Option Addr) (n c : Nat) (evs : List Ev) (w : World) (hE : EvsAt w a n evs) (hw : wholeB evs = true) (hn : n ≤ 1048576) (hsm : ∀ e ∈ evs, EvSm e) (hR : RangesAt w 2) (hT : Lib.Utf8Tabs 0 1 w) :
    Calls Tryd.prog 10 #[.slice a n c] w fun e w' => ∃ tb, e = .returned (.tuple #[.pointer (some ⟨tb, 0, none⟩), .int .i64 0]) ∧ TreeAt w' w.heap.size tb evs ∧ Below w.heap.size w w' := by
  obtain ⟨i0, hi, hz0, hz1, hz2⟩ := info_parts infoNode
  obtain ⟨j0, hj, hjz0, hjz1, hjz2⟩ := info_parts infoInt
  have HCO : Hid (∀ W, Below w.heap.size w W → Calls Tryd.prog 27 #[.slice a n c] W fun e w' => ∃ cs, e = .returned (.slice (some ⟨W.heap.size, 0, none⟩) n n) ∧ w'.ownsRow W.heap.size 71 8 (.slice (some ⟨W.heap.size, 0, none⟩) n n) n cs ∧ EvRow w' (W.heap.size + 1) n evs cs ∧ Below W.heap.size W w') :=
    Lib.hid fun W hW => copied_any a n c evs W (hE.below hW) (by omega) (fun e he => (hsm e he).2.2.1)
  have HN : Hid (n = evs.length) := Lib.hid hE.1
  have HSM := Lib.hid hsm
  have HRT : Hid (∀ W, Below w.heap.size w W → RangesAt W 2 ∧ Lib.Utf8Tabs 0 1 W) := Lib.hid fun W hW => ⟨hR.below hW, Utf8Tabs_below hT hW⟩
  obtain ⟨st, hst, hne, hop⟩ : ∃ st, begAll beg0 evs = some st ∧ evs ≠ [] ∧ st.opn = [] := by
    unfold wholeB at hw
    cases hst : begAll beg0 evs with
    | none => rw [hst] at hw; cases hw
    | some st => rw [hst] at hw; simp only [decide_eq_true_eq] at hw; exact ⟨st, rfl, hw⟩
  have HST := Lib.hid (⟨hst, hne, hop⟩ : _ ∧ _ ∧ _)
  have HN1 : Hid (∀ o, Below w.heap.size w (w.alloc o) ∧ (w.alloc o).heap[w.heap.size]? = some o ∧ (w.alloc o).heap.size = w.heap.size + 1) := Lib.hid fun o => ⟨(Below.refl w.heap.size w).alloc (Nat.le_refl _) _, heap_alloc_new w _, by simp⟩
  clear hE hsm hR hT hw hst hne hop
  go_enter Tryd.func10, Tryd.ntmps10
  go_wp2_with fail
  (with_reducible refine (HCO.out _ (HN1.out _).1).mono ?_)
  rintro e wc ⟨cs, rfl, hcs, hrow, hbc⟩
  rw [(HN1.out _).2.2] at hcs hrow
  have HCS := Lib.hid hcs
  have HROW := Lib.hid hrow
  have hbw := (HN1.out (.cells #[.slice none 0 0, .int .i64 0, .bool false, .bool false] 74)).1.trans (hbc.mono (HN1.out _).1.size)
  have HBW := Lib.hid hbw
  have HCB : Hid (wc.heap[w.heap.size]? = some (.cells #[.slice none 0 0, .int .i64 0, .bool false, .bool false] 74 (0, 0))) := Lib.hid ((hbc.block _ (by rw [(HN1.out _).2.2]; omega)).trans (HN1.out _).2.1)
  clear hcs hrow hbc hbw
  go_wp2_with fail
  have hcbw1 : w.heap.size + 1 < wc.heap.size := (HCS.out.lt _ rfl).2
  have hcbw : w.heap.size < wc.heap.size := by omega
  go_loopw [6, 22] (fun ov iv wr => ∃ (k : Nat) (s : BegS) (vC vN : Value), iv = .int .i64 k ∧ k ≤ n ∧ Hid (begAll beg0 (evs.take k) = some s) ∧ Hid (BInv wc w.heap.size (w.heap.size + 1) n evs s s (nodesB (evs.take k)) vC vN ov wr)) (fun _ iv _ => n - (intOf iv).toNat)
  case atStart => exact ⟨0, beg0, .slice none 0 0, .slice none 0 0, rfl, Nat.zero_le _, Lib.hid rfl, Lib.hid (BInv.start hcbw HCB.out _ rfl)⟩
  case round =>
    obtain ⟨k, s, vC, vN, rfl, hk, hbs, hbi⟩ := hrel
    by_cases hkn : k < n
    · have hkl : k < evs.length := by rw [← HN.out]; exact hkn
      obtain ⟨e, A, m, c', he, hmc, hA, hAcb, e0, e1, e2, e3, e4, e5, e6, e7⟩ := HROW.out.at8 HCS.out HN.out k hkn (Nat.lt_succ_self _) hbi.out.block
      have hek : evs[k] = e := by rw [List.getElem?_eq_getElem hkl] at he; exact Option.some.inj he
      obtain ⟨hok, hnext⟩ := begAll_at HST.out.1 k hkl hbs.out
      rw [hek] at hok hnext
      have hle := beg_le _ _ _ hbs.out
      simp only [beg0, List.length_nil, List.length_take] at hle
      have hcap : s.opn.length < 1048576 ∧ s.next < 1048576 := by omega
      have HTK : Hid (∀ W, BInv wc w.heap.size (w.heap.size + 1) n evs s s (nodesB (evs.take k)) vC vN u6 W → Calls Tryd.prog 28 #[.pointer (some ⟨w.heap.size, 0, none⟩), .agg #[.int .i64 e.kind, .int .i64 e.num, .int .i64 e.dep, .string (strL e.name), .slice A m c', .string (strL e.text), .int .i64 e.fr, .int .i64 e.tt]] W fun r w' => ∃ v', r = .returned (.bool true) ∧ BInv wc w.heap.size (w.heap.size + 1) n evs (begNext s e) s (nodesB (evs.take k)) v' vN u6 w' ∧ Moved w.heap.size vC v' W w') := Lib.hid fun W hW => by
        have hb := hW.toBelow HBW.out
        refine (take_ok _ _ vC s e A m c' W hW.chk hok (hW.attrs hA hAcb) (HSM.out e (by rw [← hek]; exact List.getElem_mem hkl)) hcap (HRT.out W hb).1 (HRT.out W hb).2).mono ?_
        rintro r w' ⟨v', h1, h2, h3⟩
        exact ⟨v', h1, hW.take hcbw h3 h2, h3⟩
      have HB1 : Hid (∀ o, BInv wc w.heap.size (w.heap.size + 1) n evs s s (nodesB (evs.take k)) vC vN u6 (wr.alloc o) ∧ (wr.alloc o).heap[wr.heap.size]? = some o ∧ (wr.alloc o).heap.size = wr.heap.size + 1) := Lib.hid fun o => ⟨hbi.out.below hcbw ((Below.refl _ _).alloc (Nat.le_refl _) o), heap_alloc_new wr o, by simp⟩
      obtain ⟨a1, a2, a3, a4, a5, a6, a7⟩ := hbi.out.ne hcbw
      have HBL : Hid (vC.ownBlock ≠ some wr.heap.size ∧ w.heap.size ≠ wr.heap.size ∧ vN.ownBlock ≠ some wr.heap.size ∧ wc.heap.size ≠ wr.heap.size) := Lib.hid ⟨fun e => by have := (a1 _ e).2; omega, by omega, fun e => by have := (a2 _ e).2; omega, by omega⟩
      have HK := Lib.hid (⟨hek, hok, hnext, hle, hcap, hmc, hA, hAcb⟩ : _ ∧ _ ∧ _ ∧ _ ∧ _ ∧ _ ∧ _ ∧ _)
      clear a1 a2 a3 a4 a5 a6 a7 hek hok hnext hle hcap hmc hA hAcb he
      go_wp2_with fail
      (with_reducible refine (HTK.out _ (HB1.out _).1).mono ?_)
      rintro r w2 ⟨vC', rfl, hbi2, hmv⟩
      have HEB := Lib.hid ((hmv.block wr.heap.size (by rw [(HB1.out _).2.2]; omega) (Ne.symm HBL.out.2.1) HBL.out.1).trans (HB1.out _).2.1)
      have HBI2 := Lib.hid hbi2
      clear hmv hbi2 e0 e1 e2 e3 e4 e5 e6 e7
      by_cases h2 : e.kind = 2
      · have e0 : w2.cell? ⟨wr.heap.size, 0, none⟩ = some (.int .i64 2) := by rw [cell_heap HEB.out, ← h2]; rfl
        go_wp2_with fail
        obtain ⟨b1, b2, b3, b4, b5, b6, b7⟩ := HBI2.out.ne hcbw
        obtain ⟨ncs, hncs, hndr⟩ := HBI2.out.nds'
        have hinv := nodesB_inv hbs.out
        have hhd := begOk_close HK.out.2.1 h2
        obtain ⟨rest, hr⟩ : ∃ rest, s.opn = (e.num, e.dep, e.name) :: rest := by
          cases ho : s.opn with
          | nil => rw [ho] at hhd; cases hhd
          | cons a r => rw [ho] at hhd; simp at hhd; exact ⟨r, by rw [hhd]⟩
        have hnum := hinv.opn _ (by rw [hr]; exact List.mem_cons_self)
        simp only at hnum
        rw [hinv.nxt] at hnum
        have hnlen : (nodesB (evs.take k)).length ≤ 1048576 := by
          have h1 := hinv.nxt
          have h2 := HK.out.2.2.2.2.1.2
          omega
        obtain ⟨j, hj'⟩ : ∃ j : Nat, e.num = (j : Int) := ⟨e.num.toNat, by omega⟩
        have hjn : j < (nodesB (evs.take k)).length := by omega
        obtain ⟨oa, na, rfl, hna, hoa0, hoas⟩ := own_slice hncs
        obtain ⟨gn, rfl⟩ : ∃ gn, oa = some ⟨gn, 0, none⟩ := by
          cases oa with
          | none => have := hoa0 rfl; omega
          | some ad => obtain ⟨g, rfl, _⟩ := hoas ad rfl; exact ⟨g, rfl⟩
        obtain ⟨go, oc, rfl, hoc, _, hgow, _, hgoc⟩ := own_some HBI2.out.opn
        have HNC := Lib.hid (⟨hncs, hndr, hr, hj', hinv⟩ : _ ∧ _ ∧ _ ∧ _ ∧ _)
        have HJN := Lib.hid hjn
        have HB2 := Lib.hid (⟨b2, b3⟩ : _ ∧ _)
        have hop := HK.out.2.2.2.2.1.1
        obtain ⟨x9, y9⟩ := own_cell hncs (j * 12 + 9) (by omega)
        obtain ⟨x11, y11⟩ := own_cell hncs (j * 12 + 11) (by omega)
        have fz := fun q => hncs.frozenAt q
        have t1 : w2.cell? ⟨wc.heap.size, 1, none⟩ = some (.slice (some ⟨gn, 0, none⟩) (nodesB (evs.take k)).length na) := by rw [cell_heap HBI2.out.tree]; rfl
        have e1 : w2.cell? ⟨wr.heap.size, 1, none⟩ = some (.int .i64 (j : Int)) := by rw [cell_heap HEB.out, ← hj']; rfl
        generalize hnn : (nodesB (evs.take k)).length = nn at *
        have HNN := Lib.hid hnn
        generalize hon : s.opn.length = on at *
        have HON := Lib.hid hon
        have ew : IntKind.i64.wrap ((on : Int) + 1 - 1) = (on : Int) := by rw [IntWalk.i64_in _ (by omega)]; omega
        have ew2 : IntKind.i64.wrap ((nn : Int) - 1) = (nn : Int) - 1 := IntWalk.i64_in _ (by omega)
        have i1 : (0 : Int) ≤ (j : Int) := by omega
        have i2 : (j : Int) < (nn : Int) := by omega
        clear hncs hndr b1 b2 b3 b4 b5 b6 b7 hinv hhd hr hnum hna hoa0 hoas hgoc hgow hj' hnn hon
        go_region
        go_wp2_with fail
        obtain ⟨hncs, hndr, hr, hj', hinv⟩ := HNC.out
        have hs' : (begNext s e).opn = rest := by unfold begNext; simp [h2, hr]
        have hon : on = rest.length + 1 := by rw [← HON.out, hr]; rfl
        have hsc : s.cnt = k := by have := HK.out.2.2.2.1.2.2.2; omega
        have hnb : nodesB (evs.take (k + 1)) = (nodesB (evs.take k)).modify j (fun x => ⟨x.pos, x.par, (nn : Int) - 1, k + 1⟩) := by
          rw [List.take_succ_eq_append_getElem hkl, HK.out.1]
          unfold nodesB
          rw [ndAll_snoc _ _ _ _ hbs.out]
          unfold ndNext
          rw [if_pos h2, hsc, hj', Int.toNat_natCast]
          have h9 : (ndAll beg0 [] (evs.take k)).length = nn := HNN.out
          rw [h9]
        have hmv : Moved wc.heap.size (.slice (some ⟨gn, 0, none⟩) nn na) (.slice (some ⟨gn, 0, none⟩) nn na) w2 ((w2.setCell ⟨gn, j * 12 + 9, none⟩ (.int .i64 ((nn : Int) - 1))).setCell ⟨gn, j * 12 + 11, none⟩ (.int .i64 ((k + 1 : Nat) : Int))) := ((Moved.of (Below.refl _ w2)).setOwn rfl _ _).setOwn rfl _ _
        have hgt : wc.heap.size ≠ gn := fun e => by have := (HB2.out.1 gn rfl).1; omega
        have hbi3 := HBI2.out.node (nds' := nodesB (evs.take (k + 1))) hcbw hmv ((Below.heap_setCell _ _ _ _ hgt).trans ((Below.heap_setCell _ _ _ _ hgt).trans HBI2.out.tree)) ⟨_, by rw [hnb, List.length_modify, HNN.out]; exact ((hncs.stored _ _).1.stored _ _).1, by rw [hnb]; exact hndr.close (by rw [hncs.1, HNN.out]) j (by rw [HNN.out]; exact HJN.out) _ _⟩
        have hpop := hbi3.opn
        rw [hr, opC_cons, List.length_cons] at hpop
        have hbi4 := hbi3.open' (s' := begNext s e) (vO' := .slice (some ⟨go, 0, none⟩) on oc) hcbw (Moved.mk rfl rfl rfl (Nat.le_refl _) (fun _ _ _ _ => rfl) (.inl rfl)) (by
          rw [hs', hon]
          have h3 : on + 1 = rest.length + 1 + 1 := by omega
          rw [h3] at hpop
          exact own_pop hpop (by rw [opC_length]; omega))
        have hbi5 := hbi4.below hcbw ((Below.refl _ _).drew)
        have HNX := Lib.hid (HK.out.2.2.1)
        have X := Lib.hid hbi5
        clear hbi3 hbi4 hbi5 hpop hmv hnb hncs hndr hr hj' hinv hs'
        go_roundw
        case rel => exact ⟨k + 1, begNext s e, vC', _, by go_num, by omega, HNX, X⟩
        case measure => simp [intOf]; omega
      · have hb2 : (e.kind == 2) = false := by simpa using h2
        have e0 : w2.cell? ⟨wr.heap.size, 0, none⟩ = some (.int .i64 e.kind) := by rw [cell_heap HEB.out]; rfl
        go_wp2_with fail
        obtain ⟨b1, b2, b3, b4, b5, b6, b7⟩ := HBI2.out.ne hcbw
        obtain ⟨ncs, hncs, hndr⟩ := HBI2.out.nds'
        obtain ⟨oa, na, rfl, _, _, _⟩ := own_slice hncs
        obtain ⟨go, oc, rfl, _, _, hgow, _, hgoc⟩ := own_some HBI2.out.opn
        have hnlen : (nodesB (evs.take k)).length ≤ 1048576 := by
          have h1 := (nodesB_inv hbs.out).nxt
          have h2 := HK.out.2.2.2.2.1.2
          omega
        have hszw : wr.heap.size < w2.heap.size := heap_lt HEB.out
        have hop := HK.out.2.2.2.2.1.1
        refine tree13_any (wc.heap.size + 2) wc.heap.size wr.heap.size go s.opn.length _ oc k _ ((s.opn.head?.map (·.1)).getD (-1)) e A m c' oa na _ ncs _ _ _ _ _ _ _ _ _ _ _ _ _ _ _ _ _ _ _ _ _ _ _ _ _ _ _ _ _ _ _ _ _ _ _ _ _ _ _ _ _ _ _ _ _ _ _ _ _ _ _ _ _ _ _ _ _ _ _ _ _ _ _ _ _ _ _ _ _ _ _ _ _ _ _ _ _ _ _ _ _ _ _ _ _ _ _ _ _ _ _ _ HBI2.out.tree HEB.out hncs HBI2.out.size (by omega) hgow (hgoc _ _ (opC_top _)) (fun e => by have := (b2 _ e).1; omega) HBL.out.2.2.1 (fun e => b5 go e rfl) HBL.out.2.2.2 (fun e => by have := (b3 go rfl).1; omega) (by omega) (by omega) hnlen rfl _ (Lib.hid fun y60 y61 y62 y63 y64 y65 y66 y67 y68 y69 y70 y71 y72 y73 y74 y75 y76 y77 y78 y79 y80 y81 oa6 na6 w6 hown hmv htree => ?_)
        have hsc : s.cnt = k := by have := HK.out.2.2.2.1.2.2.2; omega
        have hbi3 : BInv wc w.heap.size (w.heap.size + 1) n evs (begNext s e) s (nodesB (evs.take (k + 1))) vC' (.slice oa6 ((nodesB (evs.take k)).length + 1) na6) (.slice (some ⟨go, 0, none⟩) (s.opn.length + 1) oc) w6 := by
          have hnb : nodesB (evs.take (k + 1)) = nodesB (evs.take k) ++ [⟨k, (s.opn.head?.map (·.1)).getD (-1), e.num, k + 1⟩] := by
            rw [List.take_succ_eq_append_getElem hkl, HK.out.1]
            unfold nodesB
            rw [ndAll_snoc _ _ _ _ hbs.out]
            unfold ndNext
            rw [if_neg h2, hsc]
          rw [hnb]
          refine HBI2.out.node hcbw hmv htree ⟨_, by rw [List.length_append]; exact hown, hndr.push (by have := hncs.1; omega) _ e A m c' ?_ HK.out.2.2.2.2.2.1 HK.out.2.2.2.2.2.2.1 HK.out.2.2.2.2.2.2.2⟩
          rw [List.getElem?_eq_getElem hkl, HK.out.1]
        have HEB6 := Lib.hid ((hmv.block wr.heap.size hszw (Ne.symm HBL.out.2.2.2) HBL.out.2.2.1).trans HEB.out)
        have HBI3 := Lib.hid hbi3
        have HNX := Lib.hid (HK.out.2.2.1)
        have hk01 := (begOk_new HK.out.2.1 h2).2
        clear hbi3 htree hmv hown hnlen b1 b2 b3 b4 b5 b6 b7 hndr hncs hgow hgoc hszw hop hsc e0 hb2
        by_cases h0 : e.kind = 0
        · have e0 : w6.cell? ⟨wr.heap.size, 0, none⟩ = some (.int .i64 0) := by rw [cell_heap HEB6.out, ← h0]; rfl
          have e1 : w6.cell? ⟨wr.heap.size, 1, none⟩ = some (.int .i64 e.num) := by rw [cell_heap HEB6.out]; rfl
          have HB6 : Hid (∀ o, BInv wc w.heap.size (w.heap.size + 1) n evs (begNext s e) s (nodesB (evs.take (k + 1))) vC' (.slice oa6 ((nodesB (evs.take k)).length + 1) na6) (.slice (some ⟨go, 0, none⟩) (s.opn.length + 1) oc) (w6.alloc o) ∧ wc.heap.size + 2 ≤ w6.heap.size) := Lib.hid fun o => ⟨HBI3.out.below hcbw ((Below.refl _ _).alloc (Nat.le_refl _) o), HBI3.out.size⟩
          have hoplen : s.opn.length + 1 + 1 ≤ 4294967296 := by have := HK.out.2.2.2.2.1.1; omega
          go_wp2_with (at_builtin; go_must ((refine wpList_app w6 (by rfl) _ _ 36 (by rfl) (wc.heap.size + 1) 3 j0 (.int .i64 0) 1 8 Tryd.underlying36 hj hjz0 hjz1 hjz2 (by rfl) (by decide) (.slice (some ⟨go, 0, none⟩) (s.opn.length + 1) oc) (s.opn.length + 1) (opC s.opn) (by rfl) HBI3.out.opn w6.heap.size rfl 1 [.int .i64 e.num] (by rfl) (by rfl) (by intro u hu; simp only [List.mem_cons, List.not_mem_nil, or_false] at hu; subst hu; rfl) hoplen (by decide) (by have := (HB6.out (.cells #[] 3)).2; omega) (fun vO' w7 hown7 hap7 => ?_))))
          have hs' : (begNext s e).opn = (e.num, e.dep, e.name) :: s.opn := by unfold begNext; simp [h0]
          have hbi7 : BInv wc w.heap.size (w.heap.size + 1) n evs (begNext s e) (begNext s e) (nodesB (evs.take (k + 1))) vC' (.slice oa6 ((nodesB (evs.take k)).length + 1) na6) vO' w7 := by
            refine (HB6.out _).1.open' hcbw (Moved.app hap7) ?_
            rw [hs', opC_cons, List.length_cons]
            exact hown7
          have X := Lib.hid hbi7
          clear hbi7 hown7 hap7 hs'
          go_wp2_with fail
          go_roundw
          case rel => exact ⟨k + 1, begNext s e, vC', _, by go_num, by omega, HNX, X⟩
          case measure => simp [intOf]; omega
        · have h1 : e.kind = 1 := by omega
          have e0 : w6.cell? ⟨wr.heap.size, 0, none⟩ = some (.int .i64 1) := by rw [cell_heap HEB6.out, ← h1]; rfl
          have hs' : (begNext s e).opn = s.opn := by unfold begNext; simp [h1]
          have X := Lib.hid (HBI3.out.same hs')
          clear hs'
          go_wp2_with fail
          go_roundw
          case rel => exact ⟨k + 1, begNext s e, vC', _, by go_num, by omega, HNX, X⟩
          case measure => simp [intOf]; omega
    · have hk2 : k = n := by omega
      subst hk2
      have htk : evs.take k = evs := List.take_of_length_le (by rw [HN.out]; exact Nat.le_refl _)
      have hb := hbs.out
      have hi2 := hbi.out
      rw [htk] at hb hi2
      have hst : s = st := by have := HST.out.1; rw [hb] at this; exact Option.some.inj this
      subst hst
      have hcnt : s.cnt ≠ 0 := by
        have h1 := (beg_le _ _ _ hb).2.2.2
        have h2 := HST.out.2.1
        have h3 : evs.length ≠ 0 := fun h => h2 (List.eq_nil_of_length_eq_zero h)
        simp only [beg0] at h1
        omega
      have c3 : wr.cell? ⟨w.heap.size, 3, none⟩ = some (.bool true) := by
        rw [cell_heap hi2.chk.at', decide_eq_true ⟨HST.out.2.2, hcnt⟩]; rfl
      have HD := Lib.hid (done_any w.heap.size true wr c3)
      have HI2 := Lib.hid hi2
      clear hi2 hb hcnt c3
      go_wp2_with fail
      (with_reducible refine HD.out.mono ?_)
      rintro r w9 ⟨rfl, rfl⟩
      go_wp2_with fail
      go_ret2
      have hi2 := HI2.out
      obtain ⟨ncs, hncs, hndr⟩ := hi2.nds'
      obtain ⟨b1, b2, b3, b4, b5, b6, b7⟩ := hi2.ne hcbw
      obtain ⟨oa, na, rfl, hna, hoa0, hoas⟩ := own_slice hncs
      refine ⟨wc.heap.size, rfl, ⟨b7, by omega, w.heap.size + 1, k, oa, na, hi2.tree, HN.out, hna, by omega, by omega, fun i hi => ?_, fun i x hx => ?_⟩, hi2.toBelow HBW.out⟩
      · obtain ⟨e, A, m, c', he, hmc, hA, hAcb, g0, g1, g2, g3, g4, g5, g6, g7⟩ := HROW.out.at8 HCS.out HN.out i (by have := HN.out; omega) (Nat.lt_succ_self _) hi2.block
        have hee : evs[i] = e := by rw [List.getElem?_eq_getElem hi] at he; exact Option.some.inj he
        rw [hee]
        refine ⟨A, m, c', hmc, hi2.attrs hA hAcb, fun ad h => Nat.le_of_lt (hAcb ad h), fun j hj => ?_⟩
        match j, hj with
        | 0, _ => exact g0
        | 1, _ => exact g1
        | 2, _ => exact g2
        | 3, _ => exact g3
        | 4, _ => exact g4
        | 5, _ => exact g5
        | 6, _ => exact g6
        | 7, _ => exact g7
      · obtain ⟨e, A, m, c', h1, h2, h3, h4, h5⟩ := hndr i x hx
        have hil := get_lt hx
        cases oa with
        | none => have := hoa0 rfl; omega
        | some ad =>
          obtain ⟨g, rfl, hg1, hg2, _, hgc⟩ := hoas _ rfl
          refine ⟨g, e, A, m, c', rfl, by omega, hg2, h1, h2, hi2.attrs h3 h4, fun ad h => Nat.le_of_lt (h4 ad h), fun j hj => ?_⟩
          rw [← h5 j hj]
          exact hncs.cellAt _ (by omega)
end Go.Proofs.YtekoflcioooncaaDoor
