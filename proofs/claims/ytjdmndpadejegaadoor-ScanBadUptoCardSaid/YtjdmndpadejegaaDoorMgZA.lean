/-
  The scanner: Next, where nothing comes: a bad byte.
-/
import Derived.Test.YtjdmndpadejegaaDoorMgZ
namespace Go.Proofs.YtjdmndpadejegaaDoor
open Go.RowKit

def NxV (w : World) (S : Sn) (fp fp' : Nat → Prop) (w' : World) (e : Ending) : Out → Prop
  | .wait => e = .returned (.tuple #[.agg tkz, .agg (plC plz), .int .i64 1])
  | .done => e = .returned (.tuple #[.agg tkz, .agg (plC plz), .int .i64 3])
  | .bad k => e = .returned (.tuple #[.agg tkz, .agg (plC (PLof S.all k)), .int .i64 2])
  | .tok t => ∃ av, e = .returned (.tuple #[.agg (tkV t.kind t.name av (encs t.text) (PLof S.all t.frm) (PLof S.all t.fin)), .agg (plC plz), .int .i64 0]) ∧ w'.ownsRow w.heap.size 85 2 av t.attrs.length (atsC t.attrs) ∧ ∀ k, fp' k → fp k
def NextR (F G : Nat) (w : World) (sb : Nat) (S : Sn) (fp : Nat → Prop) (inn : Nat) (nm : List UInt8) (e : Ending) (w' : World) : Prop :=
  ∃ fp', SnAt G w' sb (S.next F inn nm) fp' ∧ Kp fp w w' ∧ (∀ k, fp' k → fp k ∨ w.heap.size ≤ k) ∧ NxV w S fp fp' w' e (nextN F S.all S.fr S.ended inn nm).1
section
variable {w : World} {B : Nat}
theorem tk_cells (h : w.heap[B]? = some (.cells tkz 41 (0, 0))) : w.cell? ⟨B, 0, none⟩ = some (.int .i64 0) ∧ w.cell? ⟨B, 1, none⟩ = some (.string (strL [])) ∧ w.cell? ⟨B, 2, none⟩ = some (.slice none 0 0) ∧ w.cell? ⟨B, 3, none⟩ = some (.string (strL [])) ∧ w.cell? ⟨B, 4, none⟩ = some (.int .i64 0) ∧ w.cell? ⟨B, 5, none⟩ = some (.int .i64 0) ∧ w.cell? ⟨B, 6, none⟩ = some (.int .i64 0) ∧ w.cell? ⟨B, 7, none⟩ = some (.int .i64 0) ∧ w.cell? ⟨B, 8, none⟩ = some (.int .i64 0) ∧ w.cell? ⟨B, 9, none⟩ = some (.int .i64 0) ∧ w.cell? ⟨B, 10, none⟩ = some (.int .i64 0) ∧ w.cell? ⟨B, 11, none⟩ = some (.int .i64 0) := by
  refine ⟨?_, ?_, ?_, ?_, ?_, ?_, ?_, ?_, ?_, ?_, ?_, ?_⟩
  all_goals (rw [cell_heap h]; rfl)
theorem pl_cells (h : w.heap[B]? = some (.cells (plC plz) 39 (0, 0))) : w.cell? ⟨B, 0, none⟩ = some (.int .i64 0) ∧ w.cell? ⟨B, 1, none⟩ = some (.int .i64 0) ∧ w.cell? ⟨B, 2, none⟩ = some (.int .i64 0) ∧ w.cell? ⟨B, 3, none⟩ = some (.int .i64 0) := by
  refine ⟨?_, ?_, ?_, ?_⟩
  all_goals (rw [cell_heap h]; rfl)
theorem row_set {t : TypeId} {old : List Value} (h : w.heap[B]? = some (.cells old.toArray t (0, 0))) (vs : List Value) (hl : old.length = vs.length) : (w.setCells B 0 vs).heap[B]? = some (.cells vs.toArray t (0, 0)) ∧ Kp (· = B) w (w.setCells B 0 vs) := by
  obtain ⟨h1, h2, h3, h4, h5, h6⟩ := setCells_mid B t [] vs w [] old (by simpa using h) hl
  exact ⟨by simpa using h1, h4, h5, h6, Nat.le_of_eq h3.symm, fun j _ hj => h2 j hj⟩
theorem out_set (h : w.heap[B]? = some (.cells tkz 41 (0, 0))) (h2 : w.heap[B + 1]? = some (.cells (plC plz) 39 (0, 0))) (vs us : List Value) (hv : vs.length = 12) (hu : us.length = 4) :
    ((w.setCells B 0 vs).setCells (B + 1) 0 us).heap[B]? = some (.cells vs.toArray 41 (0, 0)) ∧ ((w.setCells B 0 vs).setCells (B + 1) 0 us).heap[B + 1]? = some (.cells us.toArray 39 (0, 0)) ∧ Kp (fun k => k = B ∨ k = B + 1) w ((w.setCells B 0 vs).setCells (B + 1) 0 us) := by
  obtain ⟨a1, a2⟩ := row_set (old := tkz.toList) h vs (by rw [hv]; rfl)
  have h2' : (w.setCells B 0 vs).heap[B + 1]? = some (.cells (plC plz) 39 (0, 0)) := a2.heap h2 (by omega)
  obtain ⟨b1, b2⟩ := row_set (old := (plC plz).toList) h2' us (by rw [hu]; rfl)
  exact ⟨b2.heap a1 (by omega), b1, (a2.mono (S' := fun k => k = B ∨ k = B + 1) fun k _ e => .inl e).trans b2 fun k e => .inl (.inr e)⟩
end
theorem NxM.at {F G : Nat} {w : World} {sb : Nat} {ra : Option Addr} {rc : Nat} {mv : Value} {fp : Nat → Prop} {inn : Nat} {nm : List UInt8} {w2 : World} {c : Cu} {t : List Nat} {S : Sn} (h : NxM F G w sb ra rc (PLof S.all S.fr) S.ended mv fp S.mk' inn nm S.rest w2 c t)
    (hfs : fp sb) (h3 : ∀ k, (Value.slice ra S.rest.length rc).ownBlock = some k → fp k ∧ k ≠ sb) (hdom : ∀ k, fp k → G ≤ k ∧ k < w.heap.size) : SnAt G w2 sb S fp :=
  ⟨⟨_, _, h.sbk, h.rst, h3, h.mk'⟩, hfs, fun k e => ⟨(hdom k e).1, Nat.lt_of_lt_of_le (hdom k e).2 h.kp.size⟩⟩
theorem plL_le : ∀ (n : Nat) (l : List UInt8) (k : Nat) (p : Pl), k ≤ n → k ≤ l.length → (plL l k p).rune ≤ p.rune + k ∧ (plL l k p).line ≤ p.line + k ∧ (plL l k p).col ≤ p.col + k + 1
  | 0, l, k, p, h, _ => by
    obtain rfl : k = 0 := by omega
    rw [plL_zero]; exact ⟨Nat.le_refl _, Nat.le_refl _, by omega⟩
  | n + 1, l, k, p, h, hl => by
    by_cases h0 : k = 0
    · subst h0
      rw [plL_zero]; exact ⟨Nat.le_refl _, Nat.le_refl _, by omega⟩
    · have hne : l.take k ≠ [] := by
        intro e
        have := congrArg List.length e
        rw [List.length_take, List.length_nil] at this
        omega
      have h1 := dec_pos _ hne
      have h2 := dec_le _ hne
      rw [List.length_take] at h2
      rw [plL_step l k p h0 hl]
      obtain ⟨a1, a2, a3⟩ := plL_le n (l.drop (decL (l.take k)).2) (k - (decL (l.take k)).2) (p.step (decL (l.take k)).1 (decide (l[1]? = some 10))) (by omega) (by rw [List.length_drop]; omega)
      generalize plL (l.drop (decL (l.take k)).2) (k - (decL (l.take k)).2) (p.step (decL (l.take k)).1 (decide (l[1]? = some 10))) = q at *
      unfold Pl.step at a1 a2 a3
      split at a1 <;> rename_i hc
      · rw [if_pos hc] at a2 a3
        dsimp only at a1 a2 a3
        exact ⟨by omega, by omega, by omega⟩
      · rw [if_neg hc] at a2 a3
        dsimp only at a1 a2 a3
        exact ⟨by omega, by omega, by omega⟩
theorem plof_sm (b : List UInt8) (k : Nat) (hk : k ≤ b.length) (hb : b.length ≤ 1073741824) : PlSm (PLof b k) := by
  obtain ⟨h1, h2, h3⟩ := plL_le k b k ⟨0, 0, 1, 1⟩ (Nat.le_refl _) hk
  dsimp only at h1 h2 h3
  exact ⟨by show k ≤ _; omega, by show (plL b k ⟨0, 0, 1, 1⟩).rune ≤ _; omega, by show (plL b k ⟨0, 0, 1, 1⟩).line ≤ _; omega, by show (plL b k ⟨0, 0, 1, 1⟩).col ≤ _; omega⟩
theorem plTo_cut {S : Sn} (h : RCut S.all S.fr) (j : Nat) (hj : j ≤ S.rest.length) : plTo S.rest j (PLof S.all S.fr) = PLof S.all (S.fr + j) := by
  have h1 := h.1
  rw [h.place j (by unfold Sn.rest at hj; rw [List.length_drop] at hj; omega)]
  rfl
set_option maxRecDepth 100000 in
set_option maxHeartbeats 4000000 in
theorem next_bad (F : Nat) (inn : Nat) (nm : List UInt8) (w : World) (sb : Nat) (G : Nat) (S : Sn) (hok : SnOk F S) (hsm : S.all.length ≤ 1073741824) (fp : Nat → Prop) (hfs : fp sb) (hdom : ∀ k, fp k → G ≤ k ∧ k < w.heap.size)
    (ra : Option Addr) (rc : Nat) (mv : Value) (h3 : ∀ k, (Value.slice ra S.rest.length rc).ownBlock = some k → fp k ∧ k ≠ sb)
    (a2 : Act) (w2 : World) (c : Cu) (t : List Nat) (ha : a2 = { tmps := frN1 sb w.heap.size inn nm a2.tmps, defers := [] }) (hM : NxM F G w sb ra rc (PLof S.all S.fr) S.ended mv fp S.mk' inn nm S.rest w2 c t)
    (σ : St) (k : Nat) (hR : goL F inn nm .zero S.rest = (σ, .bad k)) (hk : k ≤ S.rest.length) :
    (sndN 6 ((Tryd.f14).body.getD .skip)).wp Tryd.prog (bodyPost Tryd.prog Tryd.f14 (NextR F G w sb S fp inn nm)) a2 w2 := by
  obtain ⟨w1, v0, _, _, hbt⟩ := hM.bt
  rw [hR] at hbt
  obtain ⟨hhow, hci⟩ := hbt
  have hrl : S.rest.length ≤ S.all.length := by unfold Sn.rest; rw [List.length_drop]; omega
  have HP := Lib.hid (place_any hM.sbk hM.rst k hk (by omega) (plof_sm S.all S.fr hok.cut.1 hsm))
  rw [plTo_cut hok.cut k hk] at HP
  have HAT := Lib.hid (hM.at hfs h3 hdom)
  have HKP := Lib.hid hM.kp
  have HTK := Lib.hid hM.tk
  have HPL := Lib.hid hM.pl
  have HNX : Hid (S.next F inn nm = S ∧ (nextN F S.all S.fr S.ended inn nm).1 = .bad (S.fr + k)) := Lib.hid (by
    unfold Sn.next nextN
    unfold Sn.rest at hR
    unfold Sn.rest
    rw [hR]
    exact ⟨rfl, rfl⟩)
  have c4 := hM.cu.c_how
  have c1 := hM.cu.c_i
  rw [hhow] at c4
  rw [hci] at c1
  have hcl := hM.cu.lt
  have hsz := hM.sz
  clear hM hhow hci hR hok
  obtain ⟨q, hq⟩ : ∃ q, PLof S.all (S.fr + k) = q := ⟨_, rfl⟩
  rw [hq] at HP
  have HQ := Lib.hid hq
  clear hq
  have hB := hdom
  generalize hBB : w.heap.size = B at *
  obtain ⟨t, dd⟩ := a2
  obtain ⟨ha1, rfl⟩ := Act.mk.inj ha
  rw [ha1]
  clear ha ha1
  dsimp only [frN1]
  conv => arg 2; whnf
  go_wp2_with (go_at_call 23; (with_reducible refine HP.out.mono ?_); rintro e1 w3 ⟨he, hb⟩; obtain rfl : e1 = .returned (.agg #[.int .i64 q.byte, .int .i64 q.rune, .int .i64 q.line, .int .i64 q.col]) := he; have HB3 := Lib.hid hb; have htk := (hb.block B (by omega)).trans HTK.out; have hpl := (hb.block (B + 1) (by omega)).trans HPL.out; obtain ⟨o0, o1, o2, o3, o4, o5, o6, o7, o8, o9, o10, o11⟩ := tk_cells htk; obtain ⟨p0, p1, p2, p3⟩ := pl_cells hpl; have z0 := fun i => frozen_heap (i := i) htk; have z1 := fun i => frozen_heap (i := i) hpl; have HTK3 := Lib.hid htk; have HPL3 := Lib.hid hpl; clear htk hpl hb)
  obtain ⟨f1, f2, f3⟩ := out_set HTK3.out HPL3.out tkz.toList (plC q).toList rfl rfl
  obtain ⟨e1, e2⟩ := HNX.out
  refine next_ret B tkz (plC q) rfl rfl (.int .i64 2) rfl rfl rfl f1 f2 rfl ⟨fp, ?_, ?_, fun k h => .inl h, ?_⟩
  · rw [e1]
    exact (HAT.out.below HB3.out).keepKp f3 fun k hk h => by have := (hB k hk).2; omega
  · exact (HKP.out.on HB3.out).trans f3 fun k h => .inr (by rw [hBB]; omega)
  · rw [e2]
    show _ = _
    rw [HQ.out]
end Go.Proofs.YtjdmndpadejegaaDoor

namespace Go.Proofs.YtjdmndpadejegaaDoor
open Go.RowKit

structure NxW (F G : Nat) (w : World) (sb : Nat) (ra : Option Addr) (rc : Nat) (fp fp' : Nat → Prop) (S : Sn) (inn : Nat) (nm : List UInt8) (σ : St) (w3 : World) (c : Cu) : Prop where
  tk : w3.heap[w.heap.size]? = some (.cells tkz 41 (0, 0))
  pl : w3.heap[w.heap.size + 1]? = some (.cells (plC plz) 39 (0, 0))
  cu : CuAt w3 (w.heap.size + 1 + 1) (.slice ra S.rest.length rc) inn nm c
  sbk : ∃ mv, w3.heap[sb]? = some (.cells (scnC (.slice ra S.rest.length rc) (PLof S.all S.fr) S.ended mv) 71 (0, 0))
  rst : RestV w3 (.slice ra S.rest.length rc) S.rest
  at' : SnAt G w3 sb { S with mk' := some (inn, nm, σ) } fp'
  kp : Kp fp w w3
  sz : w.heap.size + 1 + 1 + 1 ≤ w3.heap.size
  new : ∀ k, fp' k → fp k ∨ w.heap.size + 1 + 1 + 1 ≤ k
set_option maxRecDepth 100000 in
set_option maxHeartbeats 4000000 in
theorem next_mark {Post : Ending → World → Prop} (F : Nat) (inn : Nat) (nm : List UInt8) (w : World) (sb : Nat) (G : Nat) (S : Sn) (fp : Nat → Prop) (hfs : fp sb) (hdom : ∀ k, fp k → G ≤ k ∧ k < w.heap.size)
    (ra : Option Addr) (rc : Nat) (mv : Value) (h3 : ∀ k, (Value.slice ra S.rest.length rc).ownBlock = some k → fp k ∧ k ≠ sb)
    (a2 : Act) (w2 : World) (c : Cu) (t : List Nat) (ha : a2 = { tmps := frN1 sb w.heap.size inn nm a2.tmps, defers := [] }) (hM : NxM F G w sb ra rc (PLof S.all S.fr) S.ended mv fp S.mk' inn nm S.rest w2 c t)
    (σ : St) (hR : goL F inn nm .zero S.rest = (σ, .wait))
    (H : ∀ a3 w3 fp' c, a3 = { tmps := frN1 sb w.heap.size inn nm a3.tmps, defers := [] } → NxW F G w sb ra rc fp fp' S inn nm σ w3 c → c.how = 1 → c.out = decide (σ.i = S.rest.length) → (sndN 7 ((Tryd.f14).body.getD .skip)).wp Tryd.prog (bodyPost Tryd.prog Tryd.f14 Post) a3 w3) :
    (sndN 6 ((Tryd.f14).body.getD .skip)).wp Tryd.prog (bodyPost Tryd.prog Tryd.f14 Post) a2 w2 := by
  obtain ⟨w1, v0, hw1, hv0, hbt⟩ := hM.bt
  rw [hR] at hbt
  obtain ⟨b1, b2, b3, b4, b5, b6, b7, b8, b9, b10, b11, b12, b13⟩ := hbt
  obtain ⟨ta, tc, hmt, _⟩ := own_slice b3.own
  have c4 := hM.cu.c_how
  rw [b1] at c4
  have x0 : w2.cell? ⟨w.heap.size + 1 + 1, 21, none⟩ = some (.int .i64 c.mi) := hM.cu.cell 21 rfl
  have x1 : w2.cell? ⟨w.heap.size + 1 + 1, 22, none⟩ = some (.string (strL c.mn)) := hM.cu.cell 22 rfl
  have x2 : w2.cell? ⟨w.heap.size + 1 + 1, 23, none⟩ = some (.int .i64 c.mk') := hM.cu.cell 23 rfl
  have x3 : w2.cell? ⟨w.heap.size + 1 + 1, 24, none⟩ = some (.int .i64 c.mb) := hM.cu.cell 24 rfl
  have x4 : w2.cell? ⟨w.heap.size + 1 + 1, 25, none⟩ = some (.int .i64 c.mr) := hM.cu.cell 25 rfl
  have x5 : w2.cell? ⟨w.heap.size + 1 + 1, 26, none⟩ = some (c.mt) := hM.cu.cell 26 rfl
  rw [b7] at x0
  rw [b8] at x1
  rw [b4] at x2
  rw [b5] at x3
  rw [b6] at x4
  rw [hmt] at x5
  have hsb := heap_lt hM.sbk
  have y6 : ∀ o, (w2.alloc o).cell? ⟨sb, 6, none⟩ = some mv := fun o => by rw [cell_heap ((heap_alloc_old w2 o hsb).trans hM.sbk)]; rfl
  have y6' : ∀ o, (w2.alloc o).frozen? ⟨sb, 6, none⟩ = false := fun o => frozen_heap ((heap_alloc_old w2 o hsb).trans hM.sbk)
  have hcl := hM.cu.lt
  have HN : Hid (∃ fp', NxW F G w sb ra rc fp fp' S inn nm σ ((w2.setCell ⟨sb, 6, none⟩ (.pointer (some ⟨w2.heap.size, 0, none⟩))).alloc (.cells (keptC inn nm σ (.slice ta (encs σ.text).length tc)) 75)) c) := Lib.hid (by
    have hsz := hM.sz
    have hsbw := (hdom sb hfs).2
    have hs0 : (w2.setCell ⟨sb, 6, none⟩ (.pointer (some ⟨w2.heap.size, 0, none⟩))).heap.size = w2.heap.size := by simp [World.setCell]
    have hk : ∀ k, k < w2.heap.size → k ≠ sb → ((w2.setCell ⟨sb, 6, none⟩ (.pointer (some ⟨w2.heap.size, 0, none⟩))).alloc (.cells (keptC inn nm σ (.slice ta (encs σ.text).length tc)) 75)).heap[k]? = w2.heap[k]? := fun k h1 h2 => (heap_alloc_old _ _ (by rw [hs0]; exact h1)).trans (Below.heap_setCell _ _ _ _ h2)
    have hnew : ((w2.setCell ⟨sb, 6, none⟩ (.pointer (some ⟨w2.heap.size, 0, none⟩))).alloc (.cells (keptC inn nm σ (.slice ta (encs σ.text).length tc)) 75)).heap[w2.heap.size]? = some (.cells (keptC inn nm σ (.slice ta (encs σ.text).length tc)) 75 (0, 0)) := by
      have := heap_alloc_new (w2.setCell ⟨sb, 6, none⟩ (.pointer (some ⟨w2.heap.size, 0, none⟩))) (.cells (keptC inn nm σ (.slice ta (encs σ.text).length tc)) 75)
      rwa [hs0] at this
    have hsbk := (heap_alloc_old (w2.setCell ⟨sb, 6, none⟩ (.pointer (some ⟨w2.heap.size, 0, none⟩))) (.cells (keptC inn nm σ (.slice ta (encs σ.text).length tc)) 75) (by rw [hs0]; exact hsb)).trans (setCell_heap (i := 6) hM.sbk (.pointer (some ⟨w2.heap.size, 0, none⟩)))
    have hsize : ((w2.setCell ⟨sb, 6, none⟩ (.pointer (some ⟨w2.heap.size, 0, none⟩))).alloc (.cells (keptC inn nm σ (.slice ta (encs σ.text).length tc)) 75)).heap.size = w2.heap.size + 1 := by simp [World.setCell]
    have hkp := (hM.kp.set (b := sb) (.inl hfs) 6 (.pointer (some ⟨w2.heap.size, 0, none⟩))).alloc (.cells (keptC inn nm σ (.slice ta (encs σ.text).length tc)) 75)
    generalize (w2.setCell ⟨sb, 6, none⟩ (.pointer (some ⟨w2.heap.size, 0, none⟩))).alloc (.cells (keptC inn nm σ (.slice ta (encs σ.text).length tc)) 75) = w3 at *
    have hown := b3.own
    rw [hmt] at hown b13
    have hblt := hown.lt
    have hbk : ∀ k, (Value.slice ta (encs σ.text).length tc).ownBlock = some k → (fp k ∧ k ≠ sb ∧ (Value.slice ra S.rest.length rc).ownBlock ≠ some k) ∨ w.heap.size + 1 + 1 + 1 ≤ k := fun k e => by
      rcases b13 with h | ⟨g, h, hg⟩
      · rw [h] at e; exact .inl (hv0 k e)
      · rw [h] at e; injection e with e; exact .inr (by omega)
    have hrst : RestV w3 (.slice ra S.rest.length rc) S.rest := hM.rst.keep fun k e => hk k (Nat.lt_of_lt_of_le (hdom k (h3 k e).1).2 hM.kp.size) (h3 k e).2
    refine ⟨fun k => fp k ∨ k = w2.heap.size ∨ (Value.slice ta (encs σ.text).length tc).ownBlock = some k, (hk _ (by omega) (by omega)).trans hM.tk, (hk _ (by omega) (by omega)).trans hM.pl, (hk _ (by omega) (by omega)).trans hM.cu, ⟨_, hsbk⟩, hrst, ?_, hkp, by omega, ?_⟩
    · refine ⟨⟨_, _, hsbk, hrst, fun k e => ⟨.inl (h3 k e).1, (h3 k e).2⟩, ?_⟩, .inl hfs, fun k e => ?_⟩
      · refine ⟨w2.heap.size, _, rfl, hnew, own_block hown fun k e => hk k (hblt k e).2 ?_, b3.chrs, .inr (.inl rfl), by omega, fun e => ?_, fun k e => ⟨.inr (.inr e), ?_, ?_, ?_⟩⟩
        · rcases hbk k e with h | h
          · exact h.2.1
          · omega
        · have := (hdom _ (h3 _ e).1).2; have := hM.kp.size; omega
        · rcases hbk k e with h | h
          · exact h.2.1
          · omega
        · have := (hblt k e).2; omega
        · rcases hbk k e with h | h
          · exact h.2.2
          · intro e2; have := (hdom _ (h3 _ e2).1).2; omega
      · rw [hsize]
        rcases e with e | e | e
        · have := hdom k e; have := hM.kp.size; omega
        · have := (hdom sb hfs); omega
        · have := hblt k e; omega
    · intro k e
      rcases e with e | e | e
      · exact .inl e
      · exact .inr (by omega)
      · rcases hbk k e with h | h
        · exact .inl h.1
        · exact .inr h)
  have HH := Lib.hid H
  have HB := Lib.hid (And.intro b1 b2)
  clear hM H b1 b2 b3 b4 b5 b6 b7 b8 b9 b10 b11 b12 b13 hmt hw1 hv0 hR h3 hdom hfs
  obtain ⟨t, dd⟩ := a2
  obtain ⟨ha1, rfl⟩ := Act.mk.inj ha
  rw [ha1]
  clear ha ha1
  dsimp only [frN1]
  conv => arg 2; whnf
  refine wp_seq_k fun K hK => ?_
  have HJ : Hid (∀ a3 w3 fp' c, a3 = { tmps := frN1 sb w.heap.size inn nm a3.tmps, defers := [] } → NxW F G w sb ra rc fp fp' S inn nm σ w3 c → c.how = 1 → c.out = decide (σ.i = S.rest.length) → K a3 w3) := Lib.hid fun a3 w3 fp' c h1 h2 h3 h4 => hK _ _ (HH.out a3 w3 fp' c h1 h2 h3 h4)
  clear hK
  go_wp2_with fail
  obtain ⟨fp', hx⟩ := HN.out
  exact HJ.out _ _ _ _ (by rfl) hx HB.out.1 HB.out.2
set_option maxRecDepth 100000 in
set_option maxHeartbeats 4000000 in
theorem next_wait (F : Nat) (inn : Nat) (nm : List UInt8) (w : World) (sb : Nat) (G : Nat) (S : Sn) (hcut : RCut S.all S.fr) (hsm : S.all.length ≤ 1073741824) (fp fp' : Nat → Prop) (hdom : ∀ k, fp k → k < w.heap.size)
    (ra : Option Addr) (rc : Nat) (σ : St) (hR : goL F inn nm .zero S.rest = (σ, .wait))
    (a3 : Act) (w3 : World) (c : Cu) (ha : a3 = { tmps := frN1 sb w.heap.size inn nm a3.tmps, defers := [] }) (hM : NxW F G w sb ra rc fp fp' S inn nm σ w3 c) (hhow : c.how = 1) (hout : c.out = decide (σ.i = S.rest.length)) :
    (sndN 7 ((Tryd.f14).body.getD .skip)).wp Tryd.prog (bodyPost Tryd.prog Tryd.f14 (NextR F G w sb S fp inn nm)) a3 w3 := by
  obtain ⟨mv, hsbk⟩ := hM.sbk
  have hrl : S.fr + S.rest.length = S.all.length := by have := hcut.1; unfold Sn.rest; rw [List.length_drop]; omega
  have HP := Lib.hid (place_any hsbk hM.rst S.rest.length (Nat.le_refl _) (by omega) (plof_sm S.all S.fr hcut.1 hsm))
  rw [plTo_cut hcut S.rest.length (Nat.le_refl _), hrl] at HP
  have HAT := Lib.hid hM.at'
  have HKP := Lib.hid hM.kp
  have HTK := Lib.hid hM.tk
  have HPL := Lib.hid hM.pl
  have HNW := Lib.hid hM.new
  have hnx : S.next F inn nm = { S with mk' := some (inn, nm, σ) } ∧ (nextN F S.all S.fr S.ended inn nm).1 = if S.ended = false then .wait else if inn = 2 ∧ σ.i = S.rest.length then .done else .bad S.all.length := by
    unfold Sn.next nextN
    unfold Sn.rest at hR
    unfold Sn.rest
    rw [hR]
    exact ⟨rfl, rfl⟩
  have c4 := hM.cu.c_how
  have c5 := hM.cu.c_out
  rw [hhow] at c4
  rw [hout] at c5
  have d0 : w3.cell? ⟨sb, 0, none⟩ = some (.slice ra S.rest.length rc) := by rw [cell_heap hsbk]; rfl
  have d5 : w3.cell? ⟨sb, 5, none⟩ = some (.bool S.ended) := by rw [cell_heap hsbk]; rfl
  have hcl := hM.cu.lt
  have hsz := hM.sz
  have hsb := heap_lt hsbk
  have HDM : Hid (∀ k, fp' k → k < w3.heap.size ∧ k ≠ w.heap.size ∧ k ≠ w.heap.size + 1) := Lib.hid fun k hk => by
    refine ⟨(hM.at'.dom k hk).2, ?_⟩
    rcases hM.new k hk with h | h
    · have := hdom k h; omega
    · omega
  clear hM hhow hout hR hsbk hcut hdom
  have HEND : Hid (∀ (w4 : World) (q : Pl) (v : Nat), Below w3.heap.size w3 w4 → w4.heap[w.heap.size]? = some (.cells tkz 41 (0, 0)) → w4.heap[w.heap.size + 1]? = some (.cells (plC plz) 39 (0, 0)) → NxV w S fp fp' ((w4.setCells w.heap.size 0 tkz.toList).setCells (w.heap.size + 1) 0 (plC q).toList) (.returned (.tuple #[.agg tkz, .agg (plC q), .int .i64 v])) (nextN F S.all S.fr S.ended inn nm).1 →
      ∀ tmps : Array Value, tmps.getD 6 undef = .pointer (some ⟨w.heap.size, 0, none⟩) → tmps.getD 7 undef = .pointer (some ⟨w.heap.size + 1, 0, none⟩) → tmps.getD 8 undef = .int .i64 v → bodyPost Tryd.prog Tryd.f14 (NextR F G w sb S fp inn nm) .ret { tmps := tmps, defers := [] } ((w4.setCells w.heap.size 0 tkz.toList).setCells (w.heap.size + 1) 0 (plC q).toList)) := Lib.hid (by
    intro w4 q v hb h1 h2 hv tmps t6 t7 t8
    obtain ⟨f1, f2, f3⟩ := out_set h1 h2 tkz.toList (plC q).toList rfl rfl
    refine next_ret w.heap.size tkz (plC q) rfl rfl (.int .i64 v) t6 t7 t8 f1 f2 rfl ⟨fp', ?_, ?_, ?_, hv⟩
    · rw [hnx.1]
      exact (HAT.out.below hb).keepKp f3 fun k hk h => by have := HDM.out k hk; omega
    · exact (HKP.out.on hb).trans f3 fun k h => .inr (by omega)
    · intro k hk
      rcases HNW.out k hk with h | h
      · exact .inl h
      · exact .inr (by omega))
  have hnx2 := hnx.2
  clear hnx
  obtain ⟨O, hO⟩ : ∃ O, (nextN F S.all S.fr S.ended inn nm).1 = O := ⟨_, rfl⟩
  rw [hO] at HEND hnx2
  clear hO
  obtain ⟨B, hBB⟩ : ∃ B, w.heap.size = B := ⟨_, rfl⟩
  rw [hBB] at HTK HPL HEND c4 c5 hcl hsz ha
  clear hBB
  obtain ⟨t, dd⟩ := a3
  obtain ⟨ha1, rfl⟩ := Act.mk.inj ha
  rw [ha1]
  clear ha ha1
  dsimp only [frN1]
  conv => arg 2; whnf
  obtain ⟨o0, o1, o2, o3, o4, o5, o6, o7, o8, o9, o10, o11⟩ := tk_cells HTK.out
  obtain ⟨p0, p1, p2, p3⟩ := pl_cells HPL.out
  have z0 := fun i => frozen_heap (i := i) HTK.out
  have z1 := fun i => frozen_heap (i := i) HPL.out
  cases hen : S.ended with
  | false =>
    rw [hen] at d5 hnx2
    rw [if_pos rfl] at hnx2
    have HV := Lib.hid hnx2
    clear hnx2 hen
    go_wp2_with fail
    exact HEND.out w3 plz 1 (Below.refl _ _) HTK.out HPL.out (by rw [HV.out]; rfl) _ rfl rfl rfl
  | true =>
    rw [hen] at d5 hnx2
    rw [if_neg (by decide)] at hnx2
    by_cases hd : inn = 2 ∧ σ.i = S.rest.length
    · rw [if_pos hd] at hnx2
      obtain ⟨rfl, hd2⟩ := hd
      rw [decide_eq_true hd2] at c5
      have HV := Lib.hid hnx2
      clear hnx2 hen hd2
      go_wp2_with fail
      exact HEND.out w3 plz 3 (Below.refl _ _) HTK.out HPL.out (by rw [HV.out]; rfl) _ rfl rfl rfl
    · rw [if_neg hd] at hnx2
      have HV := Lib.hid hnx2
      obtain ⟨q, hq⟩ : ∃ q, PLof S.all S.all.length = q := ⟨_, rfl⟩
      rw [hq] at HP
      have HQ := Lib.hid hq
      clear hnx2 hen hq hrl
      generalize S.rest.length = n at *
      by_cases hi2 : inn = 2
      · have ti : ((inn : Int) == 2) = true := by simp [hi2]
        have hd2 : σ.i ≠ n := fun h => hd ⟨hi2, h⟩
        rw [decide_eq_false hd2] at c5
        clear hd hi2 hd2
        go_wp2_with (go_at_call 23; (with_reducible refine HP.out.mono ?_); rintro e1 w4 ⟨he, hb⟩; obtain rfl : e1 = .returned (.agg #[.int .i64 q.byte, .int .i64 q.rune, .int .i64 q.line, .int .i64 q.col]) := he; have HB4 := Lib.hid hb; have htk := (hb.block B (by omega)).trans HTK.out; have hpl := (hb.block (B + 1) (by omega)).trans HPL.out; obtain ⟨r0, r1, r2, r3, r4, r5, r6, r7, r8, r9, r10, r11⟩ := tk_cells htk; obtain ⟨s0, s1, s2, s3⟩ := pl_cells hpl; have y0 := fun i => frozen_heap (i := i) htk; have y1 := fun i => frozen_heap (i := i) hpl; have HTK4 := Lib.hid htk; have HPL4 := Lib.hid hpl; clear htk hpl hb)
        exact HEND.out _ q 2 HB4.out HTK4.out HPL4.out (by rw [HV.out]; show _ = _; rw [HQ.out]; rfl) _ rfl rfl rfl
      · have ti : ((inn : Int) == 2) = false := by simp; omega
        clear hd hi2
        go_wp2_with (go_at_call 23; (with_reducible refine HP.out.mono ?_); rintro e1 w4 ⟨he, hb⟩; obtain rfl : e1 = .returned (.agg #[.int .i64 q.byte, .int .i64 q.rune, .int .i64 q.line, .int .i64 q.col]) := he; have HB4 := Lib.hid hb; have htk := (hb.block B (by omega)).trans HTK.out; have hpl := (hb.block (B + 1) (by omega)).trans HPL.out; obtain ⟨r0, r1, r2, r3, r4, r5, r6, r7, r8, r9, r10, r11⟩ := tk_cells htk; obtain ⟨s0, s1, s2, s3⟩ := pl_cells hpl; have y0 := fun i => frozen_heap (i := i) htk; have y1 := fun i => frozen_heap (i := i) hpl; have HTK4 := Lib.hid htk; have HPL4 := Lib.hid hpl; clear htk hpl hb)
        exact HEND.out _ q 2 HB4.out HTK4.out HPL4.out (by rw [HV.out]; show _ = _; rw [HQ.out]; rfl) _ rfl rfl rfl
end Go.Proofs.YtjdmndpadejegaaDoor
