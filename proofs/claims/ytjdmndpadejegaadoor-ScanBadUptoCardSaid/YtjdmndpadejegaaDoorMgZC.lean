/-
  The scanner: Next, where a text comes.
-/
import Derived.Test.YtjdmndpadejegaaDoorMgZB
import Derived.Lib.SlBytesConst
import Derived.Deep.CutRange
import Derived.Deep.CutBlock
import Derived.Test.YtjdmndpadejegaaDoorMgB
import Derived.Test.YtjdmndpadejegaaDoorCards
import Derived.Test.YtjdmndpadejegaaDoorTie
import Derived.Deep.DeepHandedRow
import Derived.Deep.DeepWitnessRowRef
import Derived.Lib.LaidTab
import Derived.JoinedCond
import Derived.SliceStrings
import Derived.Carry
import Derived.Test.YtjdmndpadejegaaDoorProg
import Derived.Lib.LaidU8T
import Derived.PinnedBridge
import Derived.Stop.LaidErr
namespace Go.Proofs.YtjdmndpadejegaaDoor
open Go.RowKit

set_option maxRecDepth 100000 in
set_option maxHeartbeats 4000000 in
theorem next_text (F : Nat) (inn : Nat) (nm : List UInt8) (w : World) (sb : Nat) (G : Nat) (S : Sn) (hok : SnOk F S) (hsm : S.all.length ≤ 1073741824) (fp : Nat → Prop) (hfs : fp sb) (hdom : ∀ k, fp k → G ≤ k ∧ k < w.heap.size)
    (ra : Option Addr) (rc : Nat) (mv : Value) (h3 : ∀ k, (Value.slice ra S.rest.length rc).ownBlock = some k → fp k ∧ k ≠ sb)
    (a2 : Act) (w2 : World) (c : Cu) (t : List Nat) (ha : a2 = { tmps := frN1 sb w.heap.size inn nm a2.tmps, defers := [] }) (hM : NxM F G w sb ra rc (PLof S.all S.fr) S.ended mv fp S.mk' inn nm S.rest w2 c t)
    (σ : St) (tok : Tok) (k : Nat) (hR : goL F inn nm .zero S.rest = (σ, .ok tok k)) (ht : σ.text ≠ []) :
    (sndN 6 ((Tryd.f14).body.getD .skip)).wp Tryd.prog (bodyPost Tryd.prog Tryd.f14 (NextR F G w sb S fp inn nm)) a2 w2 := by
  obtain ⟨w1, v0, hw1, hv0, hbt⟩ := hM.bt
  rw [hR] at hbt
  obtain ⟨b1, b2, b3, b4, b5, b6, b7, b8⟩ := hbt
  obtain ⟨ta, tc, hta, _⟩ := own_slice b8
  obtain ⟨va, vc, hva, _⟩ := own_slice hM.tx.own
  obtain ⟨_, _, hlt, hle⟩ := cut_text hok.cut.1 hR
  have hrl : S.rest.length = S.all.length - S.fr := by unfold Sn.rest; rw [List.length_drop]
  have hbeg : 0 ≤ σ.beg ∧ σ.beg ≤ σ.i := (goL_beg F inn nm _ _ _ _ beg_zero hR).resolve_left ht
  obtain ⟨bn, hbn⟩ : ∃ bn : Nat, σ.beg = (bn : Int) := ⟨σ.beg.toNat, by omega⟩
  have hbl : bn ≤ S.rest.length := by omega
  have hil : σ.i ≤ S.rest.length := by omega
  have htl : 0 < (encs t).length := by
    rcases Nat.eq_zero_or_pos (encs t).length with h | h
    · have := (encs_nil t).1 (List.eq_nil_of_length_eq_zero h)
      rw [b5] at this
      exact absurd this ht
    · exact h
  have c4 := hM.cu.c_how
  rw [b1] at c4
  have c18 := hM.cu.c_st
  rw [b3] at c18
  have c19 := hM.cu.c_tv
  rw [hva] at c19
  have c20 := hM.cu.c_beg
  rw [b4, hbn] at c20
  have x0 : w2.cell? ⟨w.heap.size + 1 + 1, 6, none⟩ = some (.int .i64 c.tk) := hM.cu.cell 6 rfl
  have x1 : w2.cell? ⟨w.heap.size + 1 + 1, 7, none⟩ = some (.string (strL c.tn)) := hM.cu.cell 7 rfl
  have x2 : w2.cell? ⟨w.heap.size + 1 + 1, 8, none⟩ = some (c.ta) := hM.cu.cell 8 rfl
  have x3 : w2.cell? ⟨w.heap.size + 1 + 1, 9, none⟩ = some (.string (strL [])) := hM.cu.cell 9 rfl
  have x4 : w2.cell? ⟨w.heap.size + 1 + 1, 10, none⟩ = some (.int .i64 0) := hM.cu.cell 10 rfl
  have x5 : w2.cell? ⟨w.heap.size + 1 + 1, 11, none⟩ = some (.int .i64 0) := hM.cu.cell 11 rfl
  have x6 : w2.cell? ⟨w.heap.size + 1 + 1, 12, none⟩ = some (.int .i64 0) := hM.cu.cell 12 rfl
  have x7 : w2.cell? ⟨w.heap.size + 1 + 1, 13, none⟩ = some (.int .i64 0) := hM.cu.cell 13 rfl
  have x8 : w2.cell? ⟨w.heap.size + 1 + 1, 14, none⟩ = some (.int .i64 0) := hM.cu.cell 14 rfl
  have x9 : w2.cell? ⟨w.heap.size + 1 + 1, 15, none⟩ = some (.int .i64 0) := hM.cu.cell 15 rfl
  have x10 : w2.cell? ⟨w.heap.size + 1 + 1, 16, none⟩ = some (.int .i64 0) := hM.cu.cell 16 rfl
  have x11 : w2.cell? ⟨w.heap.size + 1 + 1, 17, none⟩ = some (.int .i64 0) := hM.cu.cell 17 rfl
  rw [b6] at x0
  rw [b7] at x1
  rw [hta] at x2
  generalize hn : tok.attrs.length = tn at *
  have hcl := hM.cu.lt
  have hsz := hM.sz
  have hsbw := (hdom sb hfs).2
  have hsw2 := hM.kp.size
  have hnx : S.next F inn nm = { S with fr := S.fr + σ.i, mk' := none } ∧ (nextN F S.all S.fr S.ended inn nm).1 = .tok ⟨0, [], [], σ.text, S.fr + bn, S.fr + σ.i⟩ := by
    unfold Sn.next nextN
    unfold Sn.rest at hR
    unfold Sn.rest
    rw [hR]
    dsimp only
    rw [if_pos ht, if_pos ht, hbn]
    exact ⟨rfl, rfl⟩
  obtain ⟨q0, hq0⟩ : ∃ q, PLof S.all (S.fr + bn) = q := ⟨_, rfl⟩
  obtain ⟨q1, hq1⟩ : ∃ q, PLof S.all (S.fr + σ.i) = q := ⟨_, rfl⟩
  obtain ⟨o, ho⟩ : ∃ o, o = Obj.cells (tkV tok.kind tok.name (.slice ta tn tc) [] plz plz) 41 (0, 0) := ⟨_, rfl⟩
  have hBA : Below w2.heap.size w2 (w2.alloc o) := (Below.refl _ _).alloc (Nat.le_refl _) o
  have hsa : (w2.alloc o).heap.size = w2.heap.size + 1 := by simp
  have hW : ∀ W, Kp (· = w2.heap.size) (w2.alloc o) W → Below w2.heap.size w2 W := fun W hk => hBA.trans (hk.below (B := w2.heap.size) (by omega) fun j e => by omega)
  have hsbk : ∀ W, Kp (· = w2.heap.size) (w2.alloc o) W → W.heap[sb]? = some (.cells (scnC (.slice ra S.rest.length rc) (PLof S.all S.fr) S.ended mv) 71 (0, 0)) := fun W hk => ((hW W hk).block sb (heap_lt hM.sbk)).trans hM.sbk
  have hrst : ∀ W, Kp (· = w2.heap.size) (w2.alloc o) W → RestV W (.slice ra S.rest.length rc) S.rest := fun W hk => hM.rst.keep fun j e => (hW W hk).block j (Nat.lt_of_lt_of_le (hdom j (h3 j e).1).2 hM.kp.size)
  have HP1 : Hid (∀ W, Kp (· = w2.heap.size) (w2.alloc o) W → Calls Tryd.prog 23 #[.pointer (some ⟨sb, 0, none⟩), .int .i64 (bn : Int)] W fun e w' => e = .returned (.agg (plC q0)) ∧ Below W.heap.size W w') := Lib.hid fun W hk => by
    have := place_any (hsbk W hk) (hrst W hk) bn hbl (by omega) (plof_sm S.all S.fr hok.cut.1 hsm)
    rwa [plTo_cut hok.cut bn hbl, hq0] at this
  have HP2 : Hid (∀ W, Kp (· = w2.heap.size) (w2.alloc o) W → Calls Tryd.prog 23 #[.pointer (some ⟨sb, 0, none⟩), .int .i64 σ.i] W fun e w' => e = .returned (.agg (plC q1)) ∧ Below W.heap.size W w') := Lib.hid fun W hk => by
    have := place_any (hsbk W hk) (hrst W hk) σ.i hil (by omega) (plof_sm S.all S.fr hok.cut.1 hsm)
    rwa [plTo_cut hok.cut σ.i hil, hq1] at this
  have HP : Hid (∀ W, Kp (· = w2.heap.size) (w2.alloc o) W → Calls Tryd.prog 24 #[.pointer (some ⟨sb, 0, none⟩), .int .i64 σ.i] W fun e' w' => e' = .returned (.tuple #[]) ∧ w'.heap[sb]? = some (.cells (scnC (dropV (.slice ra S.rest.length rc) σ.i) q1 S.ended (.pointer none)) 71 (0, 0)) ∧ Kp (· = sb) W w') := Lib.hid fun W hk => by
    have := take_any (hsbk W hk) (hrst W hk) σ.i hil (by omega) (plof_sm S.all S.fr hok.cut.1 hsm)
    rwa [plTo_cut hok.cut σ.i hil, hq1] at this
  have hown := hM.tx.own
  rw [hva] at hown
  have HCV : Hid (∀ W, Kp (· = w2.heap.size) (w2.alloc o) W → (convert 26 9 (.slice va (encs t).length vc)).run Tryd.prog W = .ok (.string (strL (encs t))) W) := Lib.hid fun W hk => by
    obtain ⟨a', c', e', hs'⟩ := own_sl (own_block hown fun j e => (hW W hk).block j (hown.lt j e).2)
    injection e' with e1 e2 e3
    subst e1
    exact run_bytes_str (P := Tryd.prog) (s := strL (encs t)) (by unfold bytesV; rw [strL_data]; exact hs') 26 9 5 Tryd.underlying26 Tryd.underlying5 Tryd.underlying9 vc
  have HC19 : Hid ((w2.alloc o).cell? ⟨w.heap.size + 1 + 1, 19, none⟩ = some (.slice va (encs t).length vc) ∧ (w2.alloc o).cell? ⟨w.heap.size + 1 + 1, 20, none⟩ = some (.int .i64 (bn : Int)) ∧ (w2.alloc o).cell? ⟨w.heap.size + 1 + 1, 18, none⟩ = some (.int .i64 (σ.i : Nat)) ∧ (w2.alloc o).cell? ⟨w.heap.size + 1 + 1, 4, none⟩ = some (.int .i64 0)) := Lib.hid
    ⟨(hBA.cell (p := ⟨w.heap.size + 1 + 1, 19, none⟩) hcl).trans c19, (hBA.cell (p := ⟨w.heap.size + 1 + 1, 20, none⟩) hcl).trans c20, (hBA.cell (p := ⟨w.heap.size + 1 + 1, 18, none⟩) hcl).trans c18, (hBA.cell (p := ⟨w.heap.size + 1 + 1, 4, none⟩) hcl).trans c4⟩
  have hTB : (w2.alloc o).heap[w2.heap.size]? = some (.cells (tkV tok.kind tok.name (.slice ta tn tc) [] plz plz) 41 (0, 0)) := by rw [ho]; exact heap_alloc_new w2 _
  have HTB := Lib.hid hTB
  have HO := Lib.hid ho
  have HCU : Hid (∀ W, Kp (· = w2.heap.size) (w2.alloc o) W → W.cell? ⟨w.heap.size + 1 + 1, 18, none⟩ = some (.int .i64 (σ.i : Nat))) := Lib.hid fun W hk => ((hW W hk).cell (p := ⟨w.heap.size + 1 + 1, 18, none⟩) hcl).trans c18
  have HKB : Hid (∀ w4 w5, Kp (· = w2.heap.size) (w2.alloc o) w4 → w4.heap[w2.heap.size]? = some (.cells (tkV 0 [] (.slice none 0 0) (encs t) q0 q1) 41 (0, 0)) → Kp (· = sb) w4 w5 → w5.heap[w2.heap.size]? = some (.cells (tkV 0 [] (.slice none 0 0) (encs t) q0 q1) 41 (0, 0)) ∧ w5.heap[w.heap.size]? = some (.cells tkz 41 (0, 0)) ∧ w5.heap[w.heap.size + 1]? = some (.cells (plC plz) 39 (0, 0))) := Lib.hid fun w4 w5 hk h4 h5 =>
    ⟨h5.heap h4 (by omega), h5.heap (((hW w4 hk).block _ (by omega)).trans hM.tk) (by omega), h5.heap (((hW w4 hk).block _ (by omega)).trans hM.pl) (by omega)⟩
  have HEND : Hid (∀ w4 w5, Kp (· = w2.heap.size) (w2.alloc o) w4 → w5.heap[sb]? = some (.cells (scnC (dropV (.slice ra S.rest.length rc) σ.i) q1 S.ended (.pointer none)) 71 (0, 0)) → Kp (· = sb) w4 w5 → w5.heap[w.heap.size]? = some (.cells tkz 41 (0, 0)) → w5.heap[w.heap.size + 1]? = some (.cells (plC plz) 39 (0, 0)) → ∀ tmps : Array Value, tmps.getD 6 undef = .pointer (some ⟨w.heap.size, 0, none⟩) → tmps.getD 7 undef = .pointer (some ⟨w.heap.size + 1, 0, none⟩) → tmps.getD 8 undef = .int .i64 0 →
      bodyPost Tryd.prog Tryd.f14 (NextR F G w sb S fp inn nm) .ret { tmps := tmps, defers := [] } ((w5.setCells w.heap.size 0 (tkV 0 [] (.slice none 0 0) (encs t) q0 q1).toList).setCells (w.heap.size + 1) 0 (plC plz).toList)) := Lib.hid (by
    intro w4 w5 hk hs hk5 kb kp tmps t6 t7 t8
    obtain ⟨f1, f2, f3⟩ := out_set kb kp (tkV 0 [] (.slice none 0 0) (encs t) q0 q1).toList (plC plz).toList rfl rfl
    refine next_ret w.heap.size (tkV 0 [] (.slice none 0 0) (encs t) q0 q1) (plC plz) rfl rfl (.int .i64 0) t6 t7 t8 f1 f2 rfl ?_
    refine next_fin hfs hdom h3 hil hnx.1 (by rw [hq1]; exact hs) ((hrst w4 hk).keep fun j e => hk5.block j (Nat.lt_of_lt_of_le (hdom j (h3 j e).1).2 (Nat.le_trans hM.kp.size (hW w4 hk).size)) (h3 j e).2) ((hM.kp.on (hW w4 hk)).trans hk5 fun j e => .inl (by rw [e]; exact hfs)) (f3.mono fun j _ e => by omega) hnx.2 (av := .slice none 0 0) (by dsimp only; rw [hq0, hq1, ← b5]) ?_
    exact World.ownsRow_nil _ _ _ _)
  have HKC : Hid (∀ w4 : World, w4.heap[w.heap.size]? = some (.cells tkz 41 (0, 0)) → _) := Lib.hid fun w4 h => tk_cells h
  have HKD : Hid (∀ w4 : World, w4.heap[w.heap.size + 1]? = some (.cells (plC plz) 39 (0, 0)) → _) := Lib.hid fun w4 h => pl_cells h
  have HKF : Hid (∀ w4 : World, w4.heap[w.heap.size]? = some (.cells tkz 41 (0, 0)) → ∀ i, w4.frozen? ⟨w.heap.size, i, none⟩ = false) := Lib.hid fun w4 h i => frozen_heap h
  have HKG : Hid (∀ w4 : World, w4.heap[w.heap.size + 1]? = some (.cells (plC plz) 39 (0, 0)) → ∀ i, w4.frozen? ⟨w.heap.size + 1, i, none⟩ = false) := Lib.hid fun w4 h i => frozen_heap h
  have htl2 : (0 : Int) < ((encs t).length : Int) := by omega
  clear hM b1 b2 b3 b4 b5 b6 b7 b8 hw1 hv0 hR h3 hdom hfs hva hta hok ht hn hnx hsbk hrst hW hBA hsa hown hTB htl hbeg hbn hq0 hq1 hlt hle hrl hbl hil hsm
  obtain ⟨txt, htx⟩ : ∃ txt, encs t = txt := ⟨_, rfl⟩
  rw [htx] at HCV HC19 HKB HEND c19 htl2
  clear htx
  obtain ⟨t', dd⟩ := a2
  obtain ⟨ha1, rfl⟩ := Act.mk.inj ha
  rw [ha1]
  clear ha ha1
  dsimp only [frN1]
  conv => arg 2; whnf
  go_upto_region 24 with fail
  rename_i K1 hK1
  change Code.wp _ _ _ _ (w2.alloc (Obj.cells (tkV tok.kind tok.name (.slice ta tn tc) [] plz plz) 41 (0, 0)))
  rw [← HO.out]
  refine nx24 sb w.heap.size w2.heap.size inn nm (tkV tok.kind tok.name (.slice ta tn tc) [] plz plz) rfl va txt.length vc (bn : Int) σ.i (strL txt) q0 q1 (w2.alloc o) _ ?_ K1 _ _ HTB.out (by simp; omega) (by omega) HC19.out.1 HC19.out.2.1 HC19.out.2.2.1 HCV.out HP1.out HP2.out ?_
  · rfl
  intro a4 w4 ha4 hk4 ht4
  refine hK1 _ _ ?_
  have HK4 := Lib.hid hk4
  have HT4 : Hid (w4.heap[w2.heap.size]? = some (.cells (tkV 0 [] (.slice none 0 0) txt q0 q1) 41 (0, 0))) := Lib.hid ht4
  have v18 := HCU.out w4 hk4
  have hl4 : w.heap.size + 1 + 1 < w4.heap.size := by have := hk4.size; simp at this; omega
  clear hK1 hk4 ht4 c4 c18 c19 c20 x0 x1 x2 x3 x4 x5 x6 x7 x8 x9 x10 x11 HO
  obtain ⟨t', dd⟩ := a4
  obtain ⟨ha1, rfl⟩ := Act.mk.inj ha4
  rw [ha1]
  clear ha4 ha1
  dsimp only [frN12]
  have hne1 : w2.heap.size ≠ w.heap.size := by omega
  have hne2 : w2.heap.size ≠ w.heap.size + 1 := by omega
  go_wp2_with (go_at_call 24; (with_reducible refine (HP.out _ HK4.out).mono ?_); rintro e1 w5 ⟨rfl, hs, hk⟩; have HE := Lib.hid (fun kb kp => HEND.out w4 w5 HK4.out hs hk kb kp); obtain ⟨kt, kb, kp⟩ := HKB.out w4 w5 HK4.out HT4.out hk; have HE := Lib.hid (HE.out kb kp); have hTl := heap_lt kt; have hBl := heap_lt kb; have hBl1 := heap_lt kp; obtain ⟨r0, r1, r2, r3, r4, r5, r6, r7, r8, r9, r10, r11⟩ := tkv_cells kt; obtain ⟨l0, l1, l2, l3, l4, l5, l6, l7, l8, l9, l10, l11⟩ := HKC.out w5 kb; have y1 := HKF.out w5 kb; obtain ⟨g0, g1, g2, g3⟩ := HKD.out w5 kp; have y2 := HKG.out w5 kp; clear hs hk kt kb kp)
  exact HE.out _ rfl rfl rfl
end Go.Proofs.YtjdmndpadejegaaDoor

namespace Go.Proofs.YtjdmndpadejegaaDoor
open Go.RowKit

theorem bodyPost_mono {P : Program} {fn : Func} {R R' : Ending → World → Prop} (h : ∀ e w, R e w → R' e w) : ∀ (x : Exit) (a : Act) (w : World), bodyPost P fn R x a w → bodyPost P fn R' x a w := by
  intro x a w hb
  cases x <;> first | exact hb | exact ⟨hb.1, hb.2.choose, hb.2.choose_spec.1, h _ _ hb.2.choose_spec.2⟩ | exact ⟨hb.1, h _ _ hb.2⟩ | exact h _ _ hb
set_option maxHeartbeats 1000000 in
theorem next_any (w0 : World) (hL : Laid w0) (F : Nat) (z : Int) (nm : List UInt8) (hnm : nm.length ≤ 1099511627776) (w : World) (hw0 : Below w0.heap.size w0 w) (sb : Nat) (G : Nat) (hG : w0.heap.size ≤ G) (hGw : G ≤ w.heap.size) (S : Sn) (hok : SnOk F S) (hsm : S.all.length ≤ 1073741824) (fp : Nat → Prop) (hat : SnAt G w sb S fp) :
    Calls Tryd.prog 14 #[.pointer (some ⟨sb, 0, none⟩), .int .i64 z, .string (strL nm)] w fun e w' => NextR F G w sb S fp (innOf z) nm e w' ∧ SnOk F (S.next F (innOf z) nm) := by
  obtain ⟨rv, mv, h1, h2, h3, h4⟩ := hat.at'
  obtain ⟨ra, rc, hrv, _, _⟩ := h2.q.sl
  subst hrv
  have hfs := hat.mem
  have hdom := hat.dom
  refine next_of z nm w sb G S fp (fun k hk => (hdom k hk).2) hGw ra rc _ _ mv h1 h4 fun a' wr hJ => ?_
  refine next_bet w0 hL F (innOf z) (innOf_le z) nm hnm w hw0 sb G hG S hok hsm fp (fun k hk => (hdom k hk).2) ra rc _ _ mv h1 h2 h3 a' wr hJ fun a2 w2 c t ha hM => ?_
  have hin2 := innOf_le z
  generalize innOf z = inn at *
  have hmono : ∀ {R : Ending → World → Prop} {n : Nat} {a : Act} {w3 : World}, (∀ e w', R e w' → NextR F G w sb S fp inn nm e w' ∧ SnOk F (S.next F inn nm)) → (sndN n ((Tryd.f14).body.getD .skip)).wp Tryd.prog (bodyPost Tryd.prog Tryd.f14 R) a w3 →
      (sndN n ((Tryd.f14).body.getD .skip)).wp Tryd.prog (bodyPost Tryd.prog Tryd.f14 fun e w' => NextR F G w sb S fp inn nm e w' ∧ SnOk F (S.next F inn nm)) a w3 := fun h hh => Code.wp_mono (bodyPost_mono h) hh
  rcases hR : goL F inn nm .zero S.rest with ⟨σ, s⟩
  cases s with
  | bad k =>
    have hs : SnOk F (S.next F inn nm) := hok.next fun σ' h => by rw [hR] at h; cases h
    obtain ⟨g1, g2, _⟩ := goL_bad F inn nm _ _ _ _ hR
    simp only [St.zero] at g2
    exact hmono (fun e w' h => ⟨h, hs⟩) (next_bad F inn nm w sb G S hok hsm fp hfs hdom ra rc mv h3 a2 w2 c t ha hM σ k hR (by omega))
  | ok tok k =>
    have hs : SnOk F (S.next F inn nm) := hok.next fun σ' h => by rw [hR] at h; cases h
    by_cases ht : σ.text = []
    · refine next_tag1 F inn nm w sb G S hok hsm fp hdom ra rc mv h3 a2 w2 c t ha hM σ tok k hR ht fun a3 w3 TB av c3 ha3 hT hc => ?_
      exact hmono (fun e w' h => ⟨h, hs⟩) (next_tag2 F inn nm w sb G S hok hsm fp hfs hdom ra rc h3 σ tok k hR ht a3 w3 TB av c3 ha3 hT hc)
    · exact hmono (fun e w' h => ⟨h, hs⟩) (next_text F inn nm w sb G S hok hsm fp hfs hdom ra rc mv h3 a2 w2 c t ha hM σ tok k hR ht)
  | wait =>
    obtain ⟨w1, v0, _, _, hbt⟩ := hM.bt
    rw [hR] at hbt
    obtain ⟨_, _, _, _, _, _, _, _, b9, b10, b11, b12, _⟩ := hbt
    have hmk : MkOk F S.rest inn nm σ := MkOk.new F S.rest inn nm σ hR b10 b11 b12 hin2
    have hs : SnOk F (S.next F inn nm) := hok.next fun σ' h => by rw [hR] at h; cases h; exact hmk
    refine next_mark F inn nm w sb G S fp hfs hdom ra rc mv h3 a2 w2 c t ha hM σ hR fun a3 w3 fp' c3 ha3 hW hc1 hc2 => ?_
    exact hmono (fun e w' h => ⟨h, hs⟩) (next_wait F inn nm w sb G S hok.cut hsm fp fp' (fun k hk => (hdom k hk).2) ra rc σ hR a3 w3 c3 ha3 hW hc1 hc2)
end Go.Proofs.YtjdmndpadejegaaDoor

namespace Go.Proofs.YtjdmndpadejegaaDoor
open Go.RowKit

def awk : List UInt8 := [60, 97, 62, 120, 60, 47, 97, 62]
theorem awk1 : nextN 100 awk 0 false 0 [] = (.tok ⟨1, [97], [], [], 0, 3⟩, 3) := by kernel_rfl
theorem awk2 : nextN 100 awk 3 false 1 [97] = (.tok ⟨0, [], [], [120], 3, 4⟩, 4) := by kernel_rfl
theorem awkS1 : (Sn.new.push awk).next 100 0 [] = ⟨awk, 3, false, none⟩ := by kernel_rfl
theorem awkP : PLof awk 0 = ⟨0, 0, 1, 1⟩ ∧ PLof awk 3 = ⟨3, 3, 1, 4⟩ ∧ PLof awk 4 = ⟨4, 4, 1, 5⟩ := by refine ⟨?_, ?_, ?_⟩ <;> kernel_rfl
set_option maxRecDepth 100000 in
set_option maxHeartbeats 4000000 in
theorem awake_any (w0 : World) (hL : Laid w0) (w : World) (hw0 : Below w0.heap.size w0 w) :
    Calls Tryd.prog 9 #[] w fun e w' => e = .returned (.bool true) ∧ Below w.heap.size w w' := by
  have HW0 := Lib.hid hw0
  have HN := Lib.hid (scn_new w w.heap.size (Nat.le_refl _))
  have HPU : Hid (∀ W b c, SnAt w.heap.size W w.heap.size .new (· = w.heap.size) → Sl W (some ⟨b, 0, none⟩) 8 (u8s awk) → Calls Tryd.prog 10 #[.pointer (some ⟨w.heap.size, 0, none⟩), .slice (some ⟨b, 0, none⟩) 8 c] W fun e w' => e = .returned (.int .i64 0) ∧ ∃ fp', SnAt w.heap.size w' w.heap.size (Sn.new.push awk) fp' ∧ Below w.heap.size W w') := Lib.hid fun W b c hat hs =>
    (push_ok hat (RCut.zero _) rfl (some ⟨b, 0, none⟩) 8 c awk hs (by decide)).mono fun e w' ⟨h1, fp', h2, h3, _⟩ => ⟨h1, fp', h2, h3.below (Nat.le_of_lt (hat.dom _ hat.mem).2) fun k hk => (hat.dom k hk).1⟩
  have HX1 : Hid (∀ W fp, Below w.heap.size w W → SnAt w.heap.size W w.heap.size (Sn.new.push awk) fp → Calls Tryd.prog 14 #[.pointer (some ⟨w.heap.size, 0, none⟩), .int .i64 0, .string ⟨#[]⟩] W fun e w' => ∃ a c, e = .returned (.tuple #[.agg #[.int .i64 1, .string ⟨#[97]⟩, .slice a 0 c, .string ⟨#[]⟩, .int .i64 0, .int .i64 0, .int .i64 1, .int .i64 1, .int .i64 3, .int .i64 3, .int .i64 1, .int .i64 4], .agg #[.int .i64 0, .int .i64 0, .int .i64 0, .int .i64 0], .int .i64 0]) ∧
      ∃ fp', SnAt w.heap.size w' w.heap.size ⟨awk, 3, false, none⟩ fp' ∧ Below w.heap.size W w') := Lib.hid fun W fp hb hat => by
    have hok : SnOk 100 (Sn.new.push awk) := (SnOk.new (by decide)).push awk (by decide)
    refine (next_any w0 hL 100 0 [] (by decide) W (HW0.out.trans (hb.mono HW0.out.size)) w.heap.size w.heap.size HW0.out.size (Nat.le_of_lt (hat.dom _ hat.mem).2) (Sn.new.push awk) hok (by decide) fp hat).mono ?_
    rintro e w' ⟨⟨fp', h1, h2, h3, h4⟩, _⟩
    rw [show innOf 0 = 0 from rfl] at h1 h4
    rw [awkS1] at h1
    rw [show (nextN 100 (Sn.new.push awk).all (Sn.new.push awk).fr (Sn.new.push awk).ended 0 []) = (.tok ⟨1, [97], [], [], 0, 3⟩, 3) from awk1] at h4
    obtain ⟨av, he, hr, _⟩ := h4
    obtain ⟨a, c, rfl, _⟩ := own_slice hr
    refine ⟨a, c, ?_, fp', h1, h2.below (Nat.le_of_lt (hat.dom _ hat.mem).2) fun k hk => (hat.dom k hk).1⟩
    rw [he]
    show Ending.returned (.tuple #[.agg (tkV 1 [97] _ (encs []) (PLof awk 0) (PLof awk 3)), _, _]) = _
    rw [awkP.1, awkP.2.1]
    rfl
  have HX2 : Hid (∀ W fp, Below w.heap.size w W → SnAt w.heap.size W w.heap.size ⟨awk, 3, false, none⟩ fp → Calls Tryd.prog 14 #[.pointer (some ⟨w.heap.size, 0, none⟩), .int .i64 1, .string ⟨#[97]⟩] W fun e w' => ∃ a c, e = .returned (.tuple #[.agg #[.int .i64 0, .string ⟨#[]⟩, .slice a 0 c, .string ⟨#[120]⟩, .int .i64 3, .int .i64 3, .int .i64 1, .int .i64 4, .int .i64 4, .int .i64 4, .int .i64 1, .int .i64 5], .agg #[.int .i64 0, .int .i64 0, .int .i64 0, .int .i64 0], .int .i64 0]) ∧
      Below w.heap.size W w' ∧ Kp fp W w') := Lib.hid fun W fp hb hat => by
    have hok : SnOk 100 ⟨awk, 3, false, none⟩ := by
      have := ((SnOk.new (F := 100) (by decide)).push awk (by decide)).next (inn := 0) (nm := []) fun σ h => by
        exfalso
        have : (goL 100 0 [] .zero (Sn.new.push awk).rest).2 = .wait := by rw [h]
        revert this
        have : (goL 100 0 [] .zero (Sn.new.push awk).rest).2 = .ok ⟨1, [97], []⟩ 3 := by kernel_rfl
        rw [this]
        exact fun h => by cases h
      rwa [awkS1] at this
    refine (next_any w0 hL 100 1 [97] (by decide) W (HW0.out.trans (hb.mono HW0.out.size)) w.heap.size w.heap.size HW0.out.size (Nat.le_of_lt (hat.dom _ hat.mem).2) ⟨awk, 3, false, none⟩ hok (by decide) fp hat).mono ?_
    rintro e w' ⟨⟨fp', h1, h2, h3, h4⟩, _⟩
    rw [show innOf 1 = 1 from rfl] at h1 h4
    rw [show (nextN 100 (⟨awk, 3, false, none⟩ : Sn).all (⟨awk, 3, false, none⟩ : Sn).fr (⟨awk, 3, false, none⟩ : Sn).ended 1 [97]) = (.tok ⟨0, [], [], [120], 3, 4⟩, 4) from awk2] at h4
    obtain ⟨av, he, hr, _⟩ := h4
    obtain ⟨a, c, rfl, _⟩ := own_slice hr
    refine ⟨a, c, ?_, h2.below (Nat.le_of_lt (hat.dom _ hat.mem).2) fun k hk => (hat.dom k hk).1, h2⟩
    rw [he]
    show Ending.returned (.tuple #[.agg (tkV 0 [] _ (encs [120]) (PLof awk 3) (PLof awk 4)), _, _]) = _
    rw [awkP.2.1, awkP.2.2]
    rfl
  clear hw0
  go_enter Tryd.func9, Tryd.ntmps9
  have kc := fun (w : World) (C : Array Value) (n c : Nat) => Lib.run_convert_bytes_const (P := Tryd.prog) w 26 5 C n c Tryd.underlying26 Tryd.underlying5
  have HSL : Hid (∀ W : World, Sl (W.alloc (.cells #[.int .u8 60, .int .u8 97, .int .u8 62, .int .u8 120, .int .u8 60, .int .u8 47, .int .u8 97, .int .u8 62] 5 (8, 9))) (some ⟨W.heap.size, 0, none⟩) 8 (u8s awk)) := Lib.hid fun W => ⟨rfl, fun i hi => ⟨W.heap.size, 0, rfl, by simp, by
    rw [Nat.zero_add, cell_heap (heap_alloc_new W _)]
    exact (congrArg some (List.getElem_toArray (xs := u8s awk) (i := i) (by simpa using hi)).symm ▸ Array.getElem?_eq_getElem (xs := (u8s awk).toArray) (i := i) (by simpa using hi)).trans (by simp)⟩⟩
  have HT : Hid (∀ (W w4 : World) (A B : Obj) (S : Sn) (fp : Nat → Prop), SnAt w.heap.size W w.heap.size S fp → Kp fp ((W.alloc A).alloc B) w4 → w4.heap[W.heap.size]? = some A) := Lib.hid fun W w4 A B S fp hat hk => by
    refine (hk.block W.heap.size (by simp; omega) fun h => ?_).trans ((Below.heap_alloc _ B W.heap.size (by simp)).trans (heap_alloc_new W A))
    have := (hat.dom _ h).2; omega
  have HAL : Hid (∀ (W : World) o, Below W.heap.size W (W.alloc o)) := Lib.hid fun W o => (Below.refl _ _).alloc (Nat.le_refl _) o
  go_wp2_with (first | (go_at_call 8; (with_reducible refine HN.out.mono ?_); rintro e1 w1 ⟨rfl, h1, hb1⟩; have HS1 := Lib.hid h1; have HB1 := Lib.hid hb1; clear h1 hb1) | (go_at_call 10; (with_reducible refine (HPU.out _ _ _ (HS1.out.below (HAL.out _ _)) (HSL.out _)).mono ?_); rintro e2 w2 ⟨rfl, fp2, h1, hb1⟩; have HS2 := Lib.hid h1; have HB2 := Lib.hid ((HB1.out.trans ((HAL.out w1 _).mono HB1.out.size)).trans hb1); clear h1 hb1) | (go_at_call 14; (with_reducible refine (HX1.out _ _ HB2.out HS2.out).mono ?_); rintro e3 w3 ⟨a3, c3, rfl, fp3, h1, hb1⟩; have HS3 := Lib.hid h1; have HB3 := Lib.hid (HB2.out.trans hb1); clear h1 hb1) | (go_at_call 14; (with_reducible refine (HX2.out _ _ (HB3.out.trans (((HAL.out w3 _).trans ((HAL.out _ _).mono (by simp))).mono HB3.out.size)) ((HS3.out.below (HAL.out _ _)).below (HAL.out _ _))).mono ?_); rintro e4 w4 ⟨a4, c4, rfl, hb1, hk4⟩; have ht := HT.out _ _ _ _ _ _ HS3.out hk4; have u0 : w4.cell? ⟨w3.heap.size, 0, none⟩ = some (.int .i64 1) := (by rw [cell_heap ht]; rfl); have u1 : w4.cell? ⟨w3.heap.size, 1, none⟩ = some (.string ⟨#[97]⟩) := (by rw [cell_heap ht]; rfl); have hl4 := heap_lt ht; have HB4 := Lib.hid (((HB3.out.trans (((HAL.out w3 _).trans ((HAL.out _ _).mono (by simp))).mono HB3.out.size)).trans hb1)); clear ht hk4 hb1))
  go_ret
  exact ⟨rfl, HB4.out.trans (((HAL.out w4 _).trans ((HAL.out _ _).mono (by simp))).mono HB4.out.size)⟩
end Go.Proofs.YtjdmndpadejegaaDoor

namespace Go.Proofs.YtjdmndpadejegaaDoor
open Go.RowKit

def AtsR (w : World) (a : Option Addr) (ats : List (List UInt8 × List Nat)) : Prop :=
  ∀ i, (h : i < ats.length) → ∃ b o, a = some ⟨b, o, none⟩ ∧ b < w.heap.size ∧ w.cell? ⟨b, o + i * 2, none⟩ = some (.string (strL ats[i].1)) ∧ w.cell? ⟨b, o + i * 2 + 1, none⟩ = some (.string (strL (encs ats[i].2)))
theorem AtsR.below {w w' : World} {a : Option Addr} {ats : List (List UInt8 × List Nat)} (h : AtsR w a ats) (hb : Below w.heap.size w w') : AtsR w' a ats := fun i hi => by
  obtain ⟨b, o, h1, h2, h3, h4⟩ := h i hi
  exact ⟨b, o, h1, Nat.lt_of_lt_of_le h2 hb.size, (hb.cell (p := ⟨b, o + i * 2, none⟩) h2).trans h3, (hb.cell (p := ⟨b, o + i * 2 + 1, none⟩) h2).trans h4⟩
theorem AtsR.of {w : World} {G : Nat} {a : Option Addr} {n c : Nat} {ats : List (List UInt8 × List Nat)} (h : w.ownsRow G 85 2 (.slice a n c) ats.length (atsC ats)) : AtsR w a ats := fun i hi => by
  have hlt := h.lt
  rcases h.2 with ⟨e, h0⟩ | ⟨g, cap, cur, e, hg, hh, _⟩
  · omega
  · injection e with e1 e2 e3
    subst e1
    obtain ⟨g1, g2⟩ := atsC_get ats i hi
    refine ⟨g, 0, rfl, heap_lt hh, ?_, ?_⟩
    · rw [Nat.zero_add]; have := h.cells (g := g) rfl (i * 2) _ g1; rwa [Addr.add_lit, Nat.zero_add] at this
    · rw [Nat.zero_add]; have := h.cells (g := g) rfl (i * 2 + 1) _ g2; rwa [Addr.add_lit, Nat.zero_add] at this
set_option maxRecDepth 100000 in
set_option maxHeartbeats 4000000 in
theorem alike_same (w : World) (k : Nat) (q t : List UInt8) (p0 p1 : Pl) (ats : List (List UInt8 × List Nat)) (a a' : Option Addr) (c c' : Nat) (h : AtsR w a ats) (h' : AtsR w a' ats) (hn : ats.length ≤ 1099511627776) :
    Calls Tryd.prog 20 #[.agg (tkV k q (.slice a ats.length c) t p0 p1), .agg (tkV k q (.slice a' ats.length c') t p0 p1)] w fun e w' => e = .returned (.bool true) ∧ Below w.heap.size w w' := by
  have HB : Hid (∀ A B : Obj, Below w.heap.size w ((w.alloc A).alloc B)) := Lib.hid fun A B => ((Below.refl _ w).alloc (Nat.le_refl _) A).alloc (by simp) B
  have HR : Hid (∀ A B : Obj, AtsR ((w.alloc A).alloc B) a ats) := Lib.hid fun A B => h.below (HB.out A B)
  have HR' : Hid (∀ A B : Obj, AtsR ((w.alloc A).alloc B) a' ats) := Lib.hid fun A B => h'.below (HB.out A B)
  have hnn : ((ats.length : Int) != (ats.length : Int)) = false := by simp
  obtain ⟨n, hnl⟩ : ∃ n, ats.length = n := ⟨_, rfl⟩
  rw [hnl] at hn hnn ⊢
  have HNL := Lib.hid hnl
  clear h h' hnl
  go_enter Tryd.func20, Tryd.ntmps20
  dsimp only [tkV]
  go_wp2_with fail
  have e0 := heap_alloc_new w (.cells (tkV k q (.slice a n c) t p0 p1) 41)
  have e1 := heap_alloc_new (w.alloc (.cells (tkV k q (.slice a n c) t p0 p1) 41)) (.cells (tkV k q (.slice a' n c') t p0 p1) 41)
  rw [World.size_alloc] at e1
  have f0 := (Below.heap_alloc _ (.cells (tkV k q (.slice a' n c') t p0 p1) 41) w.heap.size (by simp)).trans e0
  have b0 := HB.out (.cells (tkV k q (.slice a n c) t p0 p1) 41) (.cells (tkV k q (.slice a' n c') t p0 p1) 41)
  have r0 := HR.out (.cells (tkV k q (.slice a n c) t p0 p1) 41) (.cells (tkV k q (.slice a' n c') t p0 p1) 41)
  have r1 := HR'.out (.cells (tkV k q (.slice a n c) t p0 p1) 41) (.cells (tkV k q (.slice a' n c') t p0 p1) 41)
  change Code.wp _ _ _ _ ((w.alloc (.cells (tkV k q (.slice a n c) t p0 p1) 41)).alloc (.cells (tkV k q (.slice a' n c') t p0 p1) 41))
  generalize (w.alloc (.cells (tkV k q (.slice a n c) t p0 p1) 41)).alloc (.cells (tkV k q (.slice a' n c') t p0 p1) 41) = W0 at *
  have h0 := heap_lt f0
  have h1 := heap_lt e1
  have k0 : W0.cell? ⟨w.heap.size, 2, none⟩ = some (.slice a n c) := by rw [cell_heap f0]; rfl
  have k1 : W0.cell? ⟨w.heap.size + 1, 2, none⟩ = some (.slice a' n c') := by rw [cell_heap e1]; rfl
  have B0 := Lib.hid b0
  have R0 := Lib.hid r0
  have R1 := Lib.hid r1
  clear e0 e1 f0 b0 r0 r1 hnn HB HR HR'
  go_loopw [5] (fun v wr => ∃ i : Nat, v = .int .i64 (i : Int) ∧ i ≤ n ∧ Hid (Below W0.heap.size W0 wr)) (fun v _ => n - (intOf v).toNat)
  case atStart => exact ⟨0, rfl, Nat.zero_le _, Lib.hid (Below.refl _ _)⟩
  case round =>
    obtain ⟨i, rfl, hi, hb⟩ := hrel
    have d0 := (hb.out.cell (p := ⟨w.heap.size, 2, none⟩) h0).trans k0
    have d1 := (hb.out.cell (p := ⟨w.heap.size + 1, 2, none⟩) h1).trans k1
    by_cases hlt : i < n
    · have hlt2 : (i : Int) < (n : Int) := by omega
      have hi0 : (0 : Int) ≤ (i : Int) := by omega
      obtain ⟨b, o, rfl, hbl, x0, x1⟩ := (R0.out.below hb.out) i (by rw [HNL.out]; exact hlt)
      obtain ⟨b', o', rfl, hbl', y0, y1⟩ := (R1.out.below hb.out) i (by rw [HNL.out]; exact hlt)
      have hia : i < ats.length := by rw [HNL.out]; exact hlt
      generalize strL (ats[i]'hia).1 = s1 at *
      generalize strL (encs (ats[i]'hia).2) = s2 at *
      clear hia
      clear hlt
      go_upto_region 6 with fail
      go_quiet (fail)
      go_wp2_with fail
      go_roundw
      case rel => exact ⟨i + 1, by go_num, by omega, Lib.hid (Below.drewN hb.out _)⟩
      case measure => simp [intOf]; omega
    · have hlt2 : (n : Int) ≤ (i : Int) := by omega
      go_wp2_with fail
      go_ret
      exact ⟨rfl, B0.out.trans (hb.out.mono B0.out.size)⟩
end Go.Proofs.YtjdmndpadejegaaDoor

namespace Go.Proofs.YtjdmndpadejegaaDoor
open Go.RowKit

set_option maxRecDepth 100000 in
set_option maxHeartbeats 4000000 in
theorem scanNil_any (w0 : World) (hL : Laid w0) (w : World) (hw0 : Below w0.heap.size w0 w) (z : Int) (nm : ByteArray) (A : Option Addr) (m c : Nat) (bl : List UInt8) (hs : Sl w A m (u8s bl)) (hm : m ≤ 1073741824) :
    Calls Tryd.prog 6 #[.int .i64 z, .string nm, .slice A m c] w fun e w' => e = .returned (.bool true) ∧ Below w.heap.size w w' := by
  obtain ⟨i0, hi, hz0, hz1, hz2⟩ := info_parts u8one
  have HAW := Lib.hid (awake_any w0 hL w hw0)
  have HNX := Lib.hid (fun W => next_nil z nm W)
  have HPN := Lib.hid (fun W v => push_nil W v)
  have HEN := Lib.hid (fun W => end_nil W)
  have HAL : Hid (∀ W, Calls Tryd.prog 20 #[.agg #[.int .i64 0, .string (strL []), .slice none 0 0, .string (strL []), .int .i64 0, .int .i64 0, .int .i64 0, .int .i64 0, .int .i64 0, .int .i64 0, .int .i64 0, .int .i64 0], .agg #[.int .i64 0, .string ⟨#[]⟩, .slice none 0 0, .string ⟨#[]⟩, .int .i64 0, .int .i64 0, .int .i64 0, .int .i64 0, .int .i64 0, .int .i64 0, .int .i64 0, .int .i64 0]] W fun e w' => e = .returned (.bool true) ∧ Below W.heap.size W w') :=
    Lib.hid fun W => alike_same W 0 [] [] plz plz [] none none 0 0 (fun i hi => absurd hi (by simp)) (fun i hi => absurd hi (by simp)) (by decide)
  have HSL : Hid (∀ W, Below w.heap.size w W → Sl W A m (u8s bl)) := Lib.hid fun W hb => hs.below hb
  have HBA : Hid (∀ (W : World) o, Below W.heap.size W (W.alloc o)) := Lib.hid fun W o => (Below.refl _ _).alloc (Nat.le_refl _) o
  have HG : Hid (∀ (w2 w3 : World) (o1 o2 o3 : Obj) (v : Value), Below w.heap.size w w2 → (((w2.alloc o1).alloc o2).alloc o3).grownBy w3 v.ownBlock → v = .slice (some ⟨w2.heap.size + 1 + 1, 0, none⟩) 0 0 → Below w.heap.size w w3 ∧ w3.heap[w2.heap.size]? = some o1 ∧ w3.heap[w2.heap.size + 1]? = some o2) := Lib.hid fun w2 w3 o1 o2 o3 v hb hg hv => by
    subst hv
    have h1 := heap_alloc_new w2 o1
    have h2 := heap_alloc_new (w2.alloc o1) o2
    rw [World.size_alloc] at h2
    have hbb : Below w.heap.size w (((w2.alloc o1).alloc o2).alloc o3) := ((hb.alloc hb.size o1).alloc (by simp; have := hb.size; omega) o2).alloc (by simp; have := hb.size; omega) o3
    have hs := hb.size
    refine ⟨hbb.grown hg hbb.size (fun k hk => by have hk : some (w2.heap.size + 1 + 1) = some k := hk; injection hk with hk; omega), ?_, ?_⟩
    · exact (hg.block _ (by simp; omega) (fun e => by have e : some w2.heap.size = some (w2.heap.size + 1 + 1) := e; injection e with e; omega)).trans ((Below.heap_alloc _ o3 _ (by simp; omega)).trans ((Below.heap_alloc _ o2 _ (by simp)).trans h1))
    · exact (hg.block _ (by simp) (fun e => by have e : some (w2.heap.size + 1) = some (w2.heap.size + 1 + 1) := e; injection e with e; omega)).trans ((Below.heap_alloc _ o3 _ (by simp)).trans h2)
  have HW3 : Hid (∀ (w2 : World) (o1 o2 o3 : Obj), Below w.heap.size w w2 → Sl (((w2.alloc o1).alloc o2).alloc o3) A m (u8s bl)) := Lib.hid fun w2 o1 o2 o3 hb => HSL.out _ (((hb.alloc hb.size o1).alloc (by simp; have := hb.size; omega) o2).alloc (by simp; have := hb.size; omega) o3)
  clear hs hw0
  go_enter Tryd.func6, Tryd.ntmps6
  go_wp2_with (first | (go_at_call 9; (with_reducible refine HAW.out.mono ?_); rintro e1 w1 ⟨rfl, hb1⟩; have HB1 := Lib.hid hb1; clear hb1) | (go_at_call 14; (with_reducible refine (HNX.out _).mono ?_); rintro e2 w2 ⟨he, hb2⟩; obtain rfl : e2 = .returned (.tuple #[.agg #[.int .i64 0, .string ⟨#[]⟩, .slice none 0 0, .string ⟨#[]⟩, .int .i64 0, .int .i64 0, .int .i64 0, .int .i64 0, .int .i64 0, .int .i64 0, .int .i64 0, .int .i64 0], .agg #[.int .i64 0, .int .i64 0, .int .i64 0, .int .i64 0], .int .i64 0]) := he; have HB2 := Lib.hid (Below.tr HB1.out hb2); clear hb2) | (at_builtin; refine wpList_qappn _ rfl _ _ 26 (by rfl) 5 i0 (.int .u8 0) 1 Tryd.underlying26 hi hz0 hz1 hz2 (by decide) _ 0 [] (by rfl) (QRow.nil _ _ _ _) A m c (u8s bl) (by rfl) (HW3.out _ _ _ _ HB2.out) (by intro u hu; obtain ⟨b, _, rfl⟩ := List.mem_map.1 hu; rfl) (by omega) (by decide) (fun v3 w3 g1 g2 g3 g4 => ?_); obtain ⟨hb3, ht3, hp3⟩ := HG.out _ _ _ _ _ _ HB2.out g2 rfl; have HB3 := Lib.hid hb3; have hl3 := heap_lt ht3; have hl4 := heap_lt hp3; obtain ⟨r0, r1, r2, r3, r4, r5, r6, r7, r8, r9, r10, r11⟩ := tk_cells ht3; obtain ⟨s0, s1, s2, s3⟩ := pl_cells hp3; clear g1 g2 g3 g4 hb3 ht3 hp3) | (go_at_call 10; (with_reducible refine (HPN.out _ _).mono ?_); rintro e4 w4 ⟨rfl, hw4⟩; subst hw4) | (go_at_call 12; (with_reducible refine (HEN.out _).mono ?_); rintro e5 w5 ⟨rfl, hw5⟩; subst hw5) | (go_at_call 20; (with_reducible refine (HAL.out _).mono ?_); rintro e6 w6 ⟨rfl, hb6⟩; have HB6 := Lib.hid hb6; clear hb6))
  go_ret
  exact ⟨rfl, Below.tr HB3.out HB6.out⟩
end Go.Proofs.YtjdmndpadejegaaDoor

namespace Go.Proofs.YtjdmndpadejegaaDoor
open Go.ChangeShapes Go.WideShapes Go.ChangeAt Go.RowKit

theorem own' : ownKnob Tryd.prog.godebug = none := by kernel_rfl
theorem laidOut : laidOutB Tryd.prog = true := by kernel_rfl
theorem cellsU8 : Tryd.prog.cellsOf 5 = 1 := by kernel_rfl

theorem bulk_one {H : Type} (d : DataW H) : 1 ≤ Rows.uptoBulk d := by
  cases d with
  | lit l => cases l <;> simp [Rows.uptoBulk]
  | nil => simp [Rows.uptoBulk]
  | ptr d => simp [Rows.uptoBulk]
  | slice elems spare => simp [Rows.uptoBulk]
  | agg parts => simp [Rows.uptoBulk]
  | iface t d => simp [Rows.uptoBulk]
  | map entries => simp [Rows.uptoBulk]
  | held h => simp [Rows.uptoBulk]
theorem bulk_length {H : Type} (l : List (DataW H)) : l.length ≤ Rows.uptoBulkAll l := by
  induction l with
  | nil => simp [Rows.uptoBulkAll]
  | cons x r ih => have := bulk_one x; simp only [Rows.uptoBulkAll, List.length_cons]; omega

set_option maxRecDepth 100000 in
theorem bytes_open {H : Type} {enc : TypeId × Value → H} {W : World} {base : Nat} {v : Value} {d : DataW H} {p : List MemPlace} (hv : Value.okWide Tryd.prog W .any base 26 v) (h : DataW.Trod enc Tryd.prog W 0 (fun _ => true) true 26 v d p) :
    ∃ a n c l, v = .slice a n c ∧ Sl W a n (u8s l) ∧ n ≤ c ∧ n ≤ Rows.uptoBulk d := by
  obtain ⟨a0, len, cap, rfl⟩ := okWide_slice Tryd.underlying26 hv
  obtain ⟨fuel, hf⟩ := h
  rcases open_ints Tryd.underlying26 Tryd.underlying5 cellsU8 hf with ⟨hcs, hx⟩ | ⟨a, len', cap', zs, hcs, _, hl, hm, hz, hx, hcell, hwz⟩
  · simp [Value.cells] at hcs
    obtain ⟨rfl, rfl, rfl⟩ := hcs
    exact ⟨none, 0, 0, [], rfl, ⟨rfl, fun i hi => by simp [u8s] at hi⟩, Nat.le_refl _, Nat.zero_le _⟩
  · simp [Value.cells] at hcs
    obtain ⟨rfl, rfl, rfl⟩ := hcs
    simp only [if_true] at hz
    simp only [Prod.mk.injEq] at hx
    obtain ⟨rfl, -⟩ := hx
    have hlen : ((zs.take len).map fun z => UInt8.ofNat z.toNat).length = len := by rw [List.length_map, List.length_take]; omega
    refine ⟨some a, len, cap, (zs.take len).map fun z => UInt8.ofNat z.toNat, rfl, ⟨by rw [u8s_length, hlen], fun i hi => ?_⟩, hl, ?_⟩
    · rw [u8s_length, hlen] at hi
      have hc := hcell i (by omega)
      obtain ⟨b, o, sp⟩ := a
      have hsp : sp = none := by
        have := World.cell?_spot (hcell 0 (by omega))
        simpa [Addr.add] using this
      subst hsp
      rw [Addr.add_lit] at hc
      refine ⟨b, o, rfl, ?_, ?_⟩
      · rcases Nat.lt_or_ge b W.heap.size with h | h
        · exact h
        · simp [World.cell?, Array.getElem?_eq_none h] at hc
      · have hi2 : i < zs.length := by omega
        have hw := hwz zs[i] (List.getElem_mem hi2)
        rw [hc]
        have hr : 0 ≤ zs[i] ∧ zs[i] < 256 := by
          simp only [Lit.wf, Bool.and_eq_true, decide_eq_true_eq] at hw
          have e1 : IntKind.u8.min = 0 := by decide
          have e2 : IntKind.u8.max = 255 := by decide
          omega
        simp only [u8s, List.getElem_map, List.getElem_take, List.getD_eq_getElem?_getD, List.getElem?_eq_getElem hi2, Option.getD_some]
        congr 2
        rw [UInt8.toNat_ofNat']
        omega
    · have h1 := bulk_length (H := H) (lits .u8 (zs.take len))
      have h2 : (lits (H := H) .u8 (zs.take len)).length = len := by simp [lits]; omega
      simp only [Rows.uptoBulk]
      omega

def flat' (l : List (Int × Int)) : Array Value := (l.flatMap fun p => [.int .i32 p.1, .int .i32 p.2]).toArray
noncomputable def laidWorld (os : Os) : World :=
  let N := (World.settled Tryd.prog os).heap.size
  let w0 := World.holding Tryd.prog os ⟨#[.cells (flat' (rng 0)) 134, .cells (flat' (rng 1)) 134, .cells (flat' (rng 2)) 134, .cells (flat' (rng 3)) 134, .cells (flat' (rng 4)) 134, .cells (flat' (rng 5)) 134], #[], []⟩
  { w0 with heap := w0.heap.modify 0 fun
      | .cells _ t frozen => .cells #[.slice (some ⟨N, 0, none⟩) 5 5, .slice (some ⟨N + 1, 0, none⟩) 3 3, .slice (some ⟨N + 2, 0, none⟩) 15 15, .slice (some ⟨N + 3, 0, none⟩) 18 18, .slice (some ⟨N + 4, 0, none⟩) 1 1, .slice (some ⟨N + 5, 0, none⟩) 3 3] t frozen
      | o => o }
theorem laid_met (os : Os) (args : Array Value) : laidMet Tryd.prog [("gimlet/chars.ranges", Rows.laid_gimlet_chars_ranges)] ((laidWorld os).forCall (fun _ _ => 0) ⟨#[], args, []⟩).memory :=
  laidMet_of_run' 8 (by kernel_rfl) (by kernel_rfl)
theorem laid_same : (Rows.laid_gimlet_chars_ranges : DataW Unit) = rngData := by kernel_rfl
end Go.Proofs.YtjdmndpadejegaaDoor

namespace Go.Proofs.YtjdmndpadejegaaDoor
open Go.RowKit

def validRen : Go.Shelf.Ren := ⟨fun n => n, fun | 119 => 151 | 138 => 153 | 139 => 154 | n => n, fun | 3 => 1 | 4 => 2 | n => n⟩
theorem u8types : U8Types Tryd.prog validRen := ⟨Tryd.underlying5, Tryd.underlying151, Tryd.underlying153, Tryd.underlying154⟩
end Go.Proofs.YtjdmndpadejegaaDoor

namespace Go.Proofs.YtjdmndpadejegaaDoor
open Go.ChangeShapes Go.WideShapes Go.ChangeAt Go.RowKit

noncomputable def laidWorld3 (os : Os) : World :=
  let N := (World.settled Tryd.prog os).heap.size
  let w0 := World.holding Tryd.prog os ⟨#[.cells (flat' (rng 0)) 134, .cells (flat' (rng 1)) 134, .cells (flat' (rng 2)) 134, .cells (flat' (rng 3)) 134, .cells (flat' (rng 4)) 134, .cells (flat' (rng 5)) 134], #[], []⟩
  { w0 with heap := ((w0.heap.modify 0 fun
      | .cells _ t frozen => .cells #[.slice (some ⟨N, 0, none⟩) 5 5, .slice (some ⟨N + 1, 0, none⟩) 3 3, .slice (some ⟨N + 2, 0, none⟩) 15 15, .slice (some ⟨N + 3, 0, none⟩) 18 18, .slice (some ⟨N + 4, 0, none⟩) 1 1, .slice (some ⟨N + 5, 0, none⟩) 3 3] t frozen
      | o => o).modify 1 fun
      | .cells _ t frozen => .cells ((List.range 256).map fun b => Value.int .u8 (Lib.firstT b)).toArray t frozen
      | o => o).modify 2 fun
      | .cells _ t frozen => .cells ((List.range 16).flatMap fun i => [Value.int .u8 (Lib.accLo i), Value.int .u8 (Lib.accHi i)]).toArray t frozen
      | o => o }
set_option maxRecDepth 100000 in
theorem laid_met3 (os : Os) (args : Array Value) : laidMet Tryd.prog [("unicode/utf8.acceptRanges", Rows.laid_unicode_utf8_acceptRanges), ("gimlet/chars.ranges", Rows.laid_gimlet_chars_ranges), ("unicode/utf8.first", Rows.laid_unicode_utf8_first)] ((laidWorld3 os).forCall (fun _ _ => 0) ⟨#[], args, []⟩).memory :=
  laidMet_of_run' 8 (by kernel_rfl) (by kernel_rfl)
theorem acc_same : (Rows.laid_unicode_utf8_acceptRanges : DataW Unit) = Lib.acceptData := by kernel_rfl
theorem first_same : Rows.laid_unicode_utf8_first = Lib.firstData := Pinned.utf8First_eq
theorem u8extra : U8Extra Tryd.prog validRen := ⟨by kernel_rfl, by kernel_rfl, by kernel_rfl, by kernel_rfl, by kernel_rfl, by kernel_rfl, by kernel_rfl⟩
theorem at_laid3 {W : World} (hL : laidMet Tryd.prog [("unicode/utf8.acceptRanges", Rows.laid_unicode_utf8_acceptRanges), ("gimlet/chars.ranges", Rows.laid_gimlet_chars_ranges), ("unicode/utf8.first", Rows.laid_unicode_utf8_first)] W) : RangesAt W 0 ∧ Lib.Utf8Tabs 1 2 W := by
  refine ⟨?_, ?_⟩
  · have h := hL.tail
    rw [laid_same] at h
    exact ranges_of_laid h
  · rw [acc_same, first_same] at hL
    exact utf8Tabs_of_readsT u8types u8extra (Lib.laidMet.reads hL (.tail _ (.tail _ (.head _)))) (Lib.laidMet.reads hL (.head _))
end Go.Proofs.YtjdmndpadejegaaDoor
