/-
  The scanner: Next, where a tag comes.
-/
import Derived.Test.YtjdmndpadejegaaDoorMgZA
import Derived.BigRegion
import Derived.Deep.RegionHeld3
namespace Go.Proofs.YtjdmndpadejegaaDoor
open Go.RowKit

def frN12 (sb B TB inn : Nat) (nm : List UInt8) (t : Array Value) : Array Value := #[.pointer (some ⟨sb, 0, none⟩), .int .i64 inn, .string (strL nm), slotOf t 3, slotOf t 4, slotOf t 5, .pointer (some ⟨B, 0, none⟩), .pointer (some ⟨B + 1, 0, none⟩), .int .i64 0, .pointer (some ⟨B + 1 + 1, 0, none⟩), slotOf t 10, slotOf t 11, .pointer (some ⟨TB, 0, none⟩), slotOf t 13, slotOf t 14, slotOf t 15, slotOf t 16, slotOf t 17, slotOf t 18, slotOf t 19, slotOf t 20, slotOf t 21, slotOf t 22, slotOf t 23, slotOf t 24, slotOf t 25, slotOf t 26, slotOf t 27, slotOf t 28, slotOf t 29, slotOf t 30, slotOf t 31, slotOf t 32, slotOf t 33, slotOf t 34, slotOf t 35, slotOf t 36, slotOf t 37, slotOf t 38, slotOf t 39, slotOf t 40, slotOf t 41, slotOf t 42, slotOf t 43, slotOf t 44, slotOf t 45, slotOf t 46, slotOf t 47, slotOf t 48, slotOf t 49, slotOf t 50, slotOf t 51, slotOf t 52, slotOf t 53, slotOf t 54, slotOf t 55, slotOf t 56, slotOf t 57, slotOf t 58, slotOf t 59, slotOf t 60, slotOf t 61, slotOf t 62, slotOf t 63, slotOf t 64, slotOf t 65, slotOf t 66, slotOf t 67, slotOf t 68, slotOf t 69, slotOf t 70, slotOf t 71, slotOf t 72, slotOf t 73, slotOf t 74, slotOf t 75, slotOf t 76, slotOf t 77, slotOf t 78, slotOf t 79, slotOf t 80, slotOf t 81, slotOf t 82, slotOf t 83, slotOf t 84, slotOf t 85, slotOf t 86, slotOf t 87, slotOf t 88, slotOf t 89, slotOf t 90, slotOf t 91, slotOf t 92, slotOf t 93, slotOf t 94, slotOf t 95, slotOf t 96, slotOf t 97, slotOf t 98, slotOf t 99, slotOf t 100, slotOf t 101, slotOf t 102, slotOf t 103, slotOf t 104, slotOf t 105, slotOf t 106, slotOf t 107, slotOf t 108, slotOf t 109, slotOf t 110, slotOf t 111, slotOf t 112, slotOf t 113, slotOf t 114, slotOf t 115, slotOf t 116, slotOf t 117, slotOf t 118, slotOf t 119, slotOf t 120, slotOf t 121, slotOf t 122, slotOf t 123, slotOf t 124, slotOf t 125, slotOf t 126, slotOf t 127, slotOf t 128, slotOf t 129, slotOf t 130, slotOf t 131, slotOf t 132, slotOf t 133, slotOf t 134, slotOf t 135, slotOf t 136, slotOf t 137, slotOf t 138, slotOf t 139, slotOf t 140, slotOf t 141, slotOf t 142, slotOf t 143, slotOf t 144, slotOf t 145, slotOf t 146, slotOf t 147, slotOf t 148, slotOf t 149, slotOf t 150, slotOf t 151, slotOf t 152, slotOf t 153, slotOf t 154, slotOf t 155, slotOf t 156, slotOf t 157, slotOf t 158, slotOf t 159, slotOf t 160, slotOf t 161, slotOf t 162, slotOf t 163, slotOf t 164, slotOf t 165, slotOf t 166, slotOf t 167, slotOf t 168, slotOf t 169, slotOf t 170, slotOf t 171, slotOf t 172, slotOf t 173, slotOf t 174, slotOf t 175, slotOf t 176, slotOf t 177, slotOf t 178, slotOf t 179, slotOf t 180, slotOf t 181, slotOf t 182, slotOf t 183, slotOf t 184, slotOf t 185, slotOf t 186, slotOf t 187, slotOf t 188, slotOf t 189, slotOf t 190, slotOf t 191, slotOf t 192, slotOf t 193, slotOf t 194, slotOf t 195, slotOf t 196, slotOf t 197, slotOf t 198, slotOf t 199, slotOf t 200, slotOf t 201, slotOf t 202, slotOf t 203, slotOf t 204, slotOf t 205, slotOf t 206, slotOf t 207, slotOf t 208, slotOf t 209, slotOf t 210, slotOf t 211, slotOf t 212, slotOf t 213]
section
variable {w : World} {B : Nat}
theorem tkv_cells {k : Nat} {q : List UInt8} {av : Value} {t : List UInt8} {p0 p1 : Pl} (h : w.heap[B]? = some (.cells (tkV k q av t p0 p1) 41 (0, 0))) : w.cell? ⟨B, 0, none⟩ = some (.int .i64 k) ∧ w.cell? ⟨B, 1, none⟩ = some (.string (strL q)) ∧ w.cell? ⟨B, 2, none⟩ = some (av) ∧ w.cell? ⟨B, 3, none⟩ = some (.string (strL t)) ∧ w.cell? ⟨B, 4, none⟩ = some (.int .i64 p0.byte) ∧ w.cell? ⟨B, 5, none⟩ = some (.int .i64 p0.rune) ∧ w.cell? ⟨B, 6, none⟩ = some (.int .i64 p0.line) ∧ w.cell? ⟨B, 7, none⟩ = some (.int .i64 p0.col) ∧ w.cell? ⟨B, 8, none⟩ = some (.int .i64 p1.byte) ∧ w.cell? ⟨B, 9, none⟩ = some (.int .i64 p1.rune) ∧ w.cell? ⟨B, 10, none⟩ = some (.int .i64 p1.line) ∧ w.cell? ⟨B, 11, none⟩ = some (.int .i64 p1.col) := by
  refine ⟨?_, ?_, ?_, ?_, ?_, ?_, ?_, ?_, ?_, ?_, ?_, ?_⟩
  all_goals (rw [cell_heap h]; rfl)
end
structure NxT (G : Nat) (w : World) (sb : Nat) (ra : Option Addr) (rc : Nat) (fp : Nat → Prop) (S : Sn) (inn : Nat) (nm : List UInt8) (k : Nat) (q : List UInt8) (av : Value) (ats : List (List UInt8 × List Nat)) (t : List UInt8) (p0 p1 : Pl) (TB : Nat) (w3 : World) (c : Cu) : Prop where
  tk : w3.heap[w.heap.size]? = some (.cells tkz 41 (0, 0))
  pl : w3.heap[w.heap.size + 1]? = some (.cells (plC plz) 39 (0, 0))
  cu : CuAt w3 (w.heap.size + 1 + 1) (.slice ra S.rest.length rc) inn nm c
  sbk : ∃ mv, w3.heap[sb]? = some (.cells (scnC (.slice ra S.rest.length rc) (PLof S.all S.fr) S.ended mv) 71 (0, 0))
  rst : RestV w3 (.slice ra S.rest.length rc) S.rest
  kp : Kp fp w w3
  tbk : w3.heap[TB]? = some (.cells (tkV k q av t p0 p1) 41 (0, 0))
  tbn : w.heap.size + 1 + 1 + 1 ≤ TB
  row : w3.ownsRow (w.heap.size + 1 + 1 + 1) 85 2 av ats.length (atsC ats)
  ne : av.ownBlock ≠ some TB
set_option maxRecDepth 100000 in
set_option maxHeartbeats 4000000 in
theorem next_tag1 {Post : Ending → World → Prop} (F : Nat) (inn : Nat) (nm : List UInt8) (w : World) (sb : Nat) (G : Nat) (S : Sn) (hok : SnOk F S) (hsm : S.all.length ≤ 1073741824) (fp : Nat → Prop) (hdom : ∀ k, fp k → G ≤ k ∧ k < w.heap.size)
    (ra : Option Addr) (rc : Nat) (mv : Value) (h3 : ∀ k, (Value.slice ra S.rest.length rc).ownBlock = some k → fp k ∧ k ≠ sb)
    (a2 : Act) (w2 : World) (c : Cu) (t : List Nat) (ha : a2 = { tmps := frN1 sb w.heap.size inn nm a2.tmps, defers := [] }) (hM : NxM F G w sb ra rc (PLof S.all S.fr) S.ended mv fp S.mk' inn nm S.rest w2 c t)
    (σ : St) (tok : Tok) (k : Nat) (hR : goL F inn nm .zero S.rest = (σ, .ok tok k)) (ht : σ.text = [])
    (H : ∀ a3 w3 TB av c, a3 = { tmps := frN12 sb w.heap.size TB inn nm a3.tmps, defers := [] } → NxT G w sb ra rc fp S inn nm tok.kind tok.name av tok.attrs [] (PLof S.all (S.fr + σ.i)) plz TB w3 c → c.i = k → (sndN 11 ((Tryd.f14).body.getD .skip)).wp Tryd.prog (bodyPost Tryd.prog Tryd.f14 Post) a3 w3) :
    (sndN 6 ((Tryd.f14).body.getD .skip)).wp Tryd.prog (bodyPost Tryd.prog Tryd.f14 Post) a2 w2 := by
  obtain ⟨w1, v0, hw1, hv0, hbt⟩ := hM.bt
  rw [hR] at hbt
  obtain ⟨b1, b2, b3, b4, b5, b6, b7, b8⟩ := hbt
  obtain ⟨ta, tc, hta, _⟩ := own_slice b8
  rw [hta] at b8
  have htx := hM.tx.own
  rw [b5, ht] at htx
  obtain ⟨va, vc, hva, _⟩ := own_slice htx
  obtain ⟨_, _, hlt, hle⟩ := cut_text hok.cut.1 hR
  have hrl : S.rest.length = S.all.length - S.fr := by unfold Sn.rest; rw [List.length_drop]
  have c4 := hM.cu.c_how
  rw [b1] at c4
  have c18 := hM.cu.c_st
  rw [b3] at c18
  have c19 := hM.cu.c_tv
  rw [hva] at c19
  have x0 : w2.cell? ⟨w.heap.size + 1 + 1, 6, none⟩ = some (.int .i64 c.tk) := hM.cu.cell 6 rfl
  have x1 : w2.cell? ⟨w.heap.size + 1 + 1, 7, none⟩ = some (.string (strL c.tn)) := hM.cu.cell 7 rfl
  have x2 : w2.cell? ⟨w.heap.size + 1 + 1, 8, none⟩ = some (c.ta) := hM.cu.cell 8 rfl
  have x3 : w2.cell? ⟨w.heap.size + 1 + 1, 9, none⟩ = some (.string (strL [])) := hM.cu.cell 9 rfl
  have x4 : w2.cell? ⟨w.heap.size + 1 + 1, 10, none⟩ = some (.int .i64 0) := hM.cu.cell 10 rfl
  have x5 : w2.cell? ⟨w.heap.size + 1 + 1, 11, none⟩ = some (.int .i64 0) := hM.cu.cell 11 rfl
  have x6 : w2.cell? ⟨w.heap.size + 1 + 1, 12, none⟩ = some (.int .i64 0) := hM.cu.cell 12 rfl
  have x7 : w2.cell? ⟨w.heap.size + 1 + 1, 13, none⟩ = some (.int .i64 0) := hM.cu.cell 13 rfl
  have x8 : w2.cell? ⟨w.heap.size + 1 + 1, 14, none⟩ = some (.int .i64 0) := hM.cu.cell 14 rfl
  have x9 : w2.cell? ⟨w.heap.size + 1 + 1, 15, none⟩ = some (.int .i64 0) := hM.cu.cell 15 rfl
  have x10 : w2.cell? ⟨w.heap.size + 1 + 1, 16, none⟩ = some (.int .i64 0) := hM.cu.cell 16 rfl
  have x11 : w2.cell? ⟨w.heap.size + 1 + 1, 17, none⟩ = some (.int .i64 0) := hM.cu.cell 17 rfl
  rw [b6] at x0
  rw [b7] at x1
  rw [hta] at x2
  generalize hn : tok.attrs.length = tn at *
  have hcl := hM.cu.lt
  have HP : Hid (∀ W, Below w2.heap.size w2 W → Calls Tryd.prog 23 #[.pointer (some ⟨sb, 0, none⟩), .int .i64 σ.i] W fun e w' => e = .returned (.agg (plC (PLof S.all (S.fr + σ.i)))) ∧ Below W.heap.size W w') := Lib.hid fun W hb => by
    have := place_any ((hb.block sb (heap_lt hM.sbk)).trans hM.sbk) (hM.rst.keep fun j e => hb.block j (Nat.lt_of_lt_of_le (hdom j (h3 j e).1).2 hM.kp.size)) σ.i (by omega) (by omega) (plof_sm S.all S.fr hok.cut.1 hsm)
    rwa [plTo_cut hok.cut σ.i (by omega)] at this
  have HN : Hid (∀ w4 o, o = Obj.cells (tkV tok.kind tok.name (.slice ta tn tc) [] plz plz) 41 (0, 0) → Below (w2.alloc o).heap.size (w2.alloc o) w4 → NxT G w sb ra rc fp S inn nm tok.kind tok.name (.slice ta tn tc) tok.attrs [] (PLof S.all (S.fr + σ.i)) plz w2.heap.size ((((w4.setCell ⟨w2.heap.size, 4, none⟩ (.int .i64 (PLof S.all (S.fr + σ.i)).byte)).setCell ⟨w2.heap.size, 5, none⟩ (.int .i64 (PLof S.all (S.fr + σ.i)).rune)).setCell ⟨w2.heap.size, 6, none⟩ (.int .i64 (PLof S.all (S.fr + σ.i)).line)).setCell ⟨w2.heap.size, 7, none⟩ (.int .i64 (PLof S.all (S.fr + σ.i)).col)) c) := Lib.hid fun w4 o ho hb => by
    subst ho
    have hsz := hM.sz
    have hB : Below w2.heap.size w2 w4 := ((Below.refl w2.heap.size w2).alloc (Nat.le_refl _) _).trans (hb.mono (by simp))
    have hT : w4.heap[w2.heap.size]? = some (.cells (tkV tok.kind tok.name (.slice ta tn tc) [] plz plz) 41 (0, 0)) := (hb.block _ (by simp)).trans (heap_alloc_new w2 _)
    generalize PLof S.all (S.fr + σ.i) = q at *
    have hT2 := setCell_heap (i := 7) (setCell_heap (i := 6) (setCell_heap (i := 5) (setCell_heap (i := 4) hT (.int .i64 q.byte)) (.int .i64 q.rune)) (.int .i64 q.line)) (.int .i64 q.col)
    have hK : Below w2.heap.size w2 ((((w4.setCell ⟨w2.heap.size, 4, none⟩ (.int .i64 q.byte)).setCell ⟨w2.heap.size, 5, none⟩ (.int .i64 q.rune)).setCell ⟨w2.heap.size, 6, none⟩ (.int .i64 q.line)).setCell ⟨w2.heap.size, 7, none⟩ (.int .i64 q.col)) :=
      (((hB.setCell (p := ⟨w2.heap.size, 4, none⟩) (Nat.le_refl _) _).setCell (p := ⟨w2.heap.size, 5, none⟩) (Nat.le_refl _) _).setCell (p := ⟨w2.heap.size, 6, none⟩) (Nat.le_refl _) _).setCell (p := ⟨w2.heap.size, 7, none⟩) (Nat.le_refl _) _
    generalize (((w4.setCell ⟨w2.heap.size, 4, none⟩ (.int .i64 q.byte)).setCell ⟨w2.heap.size, 5, none⟩ (.int .i64 q.rune)).setCell ⟨w2.heap.size, 6, none⟩ (.int .i64 q.line)).setCell ⟨w2.heap.size, 7, none⟩ (.int .i64 q.col) = w5 at *
    have hlt8 := b8.lt
    refine ⟨(hK.block _ (by omega)).trans hM.tk, (hK.block _ (by omega)).trans hM.pl, hM.cu.below hK, ⟨mv, (hK.block sb (heap_lt hM.sbk)).trans hM.sbk⟩, hM.rst.keep fun j e => hK.block j (Nat.lt_of_lt_of_le (hdom j (h3 j e).1).2 hM.kp.size), hM.kp.on hK, hT2, hsz, ?_, fun e => by have := (hlt8 _ e).2; omega⟩
    rw [hn]
    exact own_base (own_block b8 fun j e => hK.block j (hlt8 j e).2) hw1
  have HH := Lib.hid H
  have HCI := Lib.hid b2
  clear hM H b1 b2 b3 b4 b5 b6 b7 b8 hw1 hv0 hR h3 hdom htx hva hta hok ht hn
  obtain ⟨q, hq⟩ : ∃ q, PLof S.all (S.fr + σ.i) = q := ⟨_, rfl⟩
  rw [hq] at HP HN HH
  clear hq
  obtain ⟨t, dd⟩ := a2
  obtain ⟨ha1, rfl⟩ := Act.mk.inj ha
  rw [ha1]
  clear ha ha1
  dsimp only [frN1]
  conv => arg 2; whnf
  have HBA : Hid (∀ o, Below w2.heap.size w2 (w2.alloc o)) := Lib.hid fun o => (Below.refl _ _).alloc (Nat.le_refl _) o
  have hsa : ∀ o, (w2.alloc o).heap.size = w2.heap.size + 1 := fun o => by simp
  have HSA := Lib.hid hsa
  clear hsa
  go_upto_region 27 with fail
  rename_i K1 hK1
  have HJ : Hid (∀ a3 w3 TB av c, a3 = { tmps := frN12 sb w.heap.size TB inn nm a3.tmps, defers := [] } → NxT G w sb ra rc fp S inn nm tok.kind tok.name av tok.attrs [] q plz TB w3 c → c.i = k → K1 a3 w3) := Lib.hid fun a3 w3 TB av c h1 h2 h3 => hK1 _ _ (HH.out a3 w3 TB av c h1 h2 h3)
  clear hK1
  go_wp2_with (go_at_call 23; (with_reducible refine (HP.out _ (HBA.out _)).mono ?_); rintro e1 w4 ⟨he, hb⟩; obtain rfl : e1 = .returned (.agg #[.int .i64 q.byte, .int .i64 q.rune, .int .i64 q.line, .int .i64 q.col]) := he; have hT : w4.heap[w2.heap.size]? = some (.cells (tkV tok.kind tok.name (.slice ta tn tc) [] plz plz) 41 (0, 0)) := (hb.block _ (by rw [HSA.out]; omega)).trans (heap_alloc_new w2 _); obtain ⟨r0, r1, r2, r3, r4, r5, r6, r7, r8, r9, r10, r11⟩ := tkv_cells hT; have y0 := fun i => frozen_heap (i := i) hT; have HN4 := Lib.hid (HN.out w4 _ rfl hb); clear hT hb)
  exact HJ.out _ _ _ _ _ (by rfl) HN4.out HCI.out
theorem next_fin {F G : Nat} {inn : Nat} {nm : List UInt8} {w : World} {sb : Nat} {S : Sn} {fp : Nat → Prop} (hfs : fp sb) (hdom : ∀ k, fp k → G ≤ k ∧ k < w.heap.size) {ra : Option Addr} {rc : Nat} (h3 : ∀ k, (Value.slice ra S.rest.length rc).ownBlock = some k → fp k ∧ k ≠ sb)
    {w4 w5 : World} {j : Nat} (hj : j ≤ S.rest.length) (hn : S.next F inn nm = { S with fr := S.fr + j, mk' := none }) (hs : w4.heap[sb]? = some (.cells (scnC (dropV (.slice ra S.rest.length rc) j) (PLof S.all (S.fr + j)) S.ended (.pointer none)) 71 (0, 0)))
    (hr : RestV w4 (.slice ra S.rest.length rc) S.rest) (hk : Kp fp w w4) (hk5 : Kp (fun k => w.heap.size ≤ k) w4 w5)
    {tt : TokP} {av : Value} {e : Ending} (ho : (nextN F S.all S.fr S.ended inn nm).1 = .tok tt) (he : e = .returned (.tuple #[.agg (tkV tt.kind tt.name av (encs tt.text) (PLof S.all tt.frm) (PLof S.all tt.fin)), .agg (plC plz), .int .i64 0]))
    (hrow : w5.ownsRow w.heap.size 85 2 av tt.attrs.length (atsC tt.attrs)) : NextR F G w sb S fp inn nm e w5 := by
  obtain ⟨d1, d2⟩ := hr.drop j hj
  have hsb := (hdom sb hfs).2
  refine ⟨fun k => k = sb ∨ (Value.slice ra S.rest.length rc).ownBlock = some k, ?_, ?_, ?_, ?_⟩
  · rw [hn]
    have hrest : ({ S with fr := S.fr + j, mk' := none } : Sn).rest = S.rest.drop j := by unfold Sn.rest; rw [List.drop_drop]
    have hkk : ∀ k, k < w.heap.size → w5.heap[k]? = w4.heap[k]? := fun k h => hk5.block k (Nat.lt_of_lt_of_le h hk.size) (by omega)
    refine ⟨⟨_, _, (hkk sb hsb).trans hs, ?_, fun k e => ?_, rfl⟩, .inl rfl, fun k e => ?_⟩
    · rw [hrest]
      exact d1.keep fun k e => hkk k (hdom k (h3 k (by rw [← d2]; exact e)).1).2
    · rw [d2] at e; exact ⟨.inr e, (h3 k e).2⟩
    · have hf : fp k := by
        rcases e with e | e
        · rw [e]; exact hfs
        · exact (h3 k e).1
      exact ⟨(hdom k hf).1, Nat.lt_of_lt_of_le (hdom k hf).2 (Nat.le_trans hk.size hk5.size)⟩
  · exact hk.trans hk5 fun k h => .inr h
  · intro k e
    rcases e with e | e
    · exact .inl (by rw [e]; exact hfs)
    · exact .inl (h3 k e).1
  · rw [ho]
    refine ⟨av, he, hrow, fun k e => ?_⟩
    rcases e with e | e
    · rw [e]; exact hfs
    · exact (h3 k e).1
set_option maxRecDepth 100000 in
set_option maxHeartbeats 4000000 in
theorem next_tag2 (F : Nat) (inn : Nat) (nm : List UInt8) (w : World) (sb : Nat) (G : Nat) (S : Sn) (hok : SnOk F S) (hsm : S.all.length ≤ 1073741824) (fp : Nat → Prop) (hfs : fp sb) (hdom : ∀ k, fp k → G ≤ k ∧ k < w.heap.size)
    (ra : Option Addr) (rc : Nat) (h3 : ∀ k, (Value.slice ra S.rest.length rc).ownBlock = some k → fp k ∧ k ≠ sb)
    (σ : St) (tok : Tok) (k : Nat) (hR : goL F inn nm .zero S.rest = (σ, .ok tok k)) (ht : σ.text = [])
    (a3 : Act) (w3 : World) (TB : Nat) (av : Value) (c : Cu) (ha : a3 = { tmps := frN12 sb w.heap.size TB inn nm a3.tmps, defers := [] }) (hM : NxT G w sb ra rc fp S inn nm tok.kind tok.name av tok.attrs [] (PLof S.all (S.fr + σ.i)) plz TB w3 c) (hci : c.i = k) :
    (sndN 11 ((Tryd.f14).body.getD .skip)).wp Tryd.prog (bodyPost Tryd.prog Tryd.f14 (NextR F G w sb S fp inn nm)) a3 w3 := by
  obtain ⟨mv, hsbk⟩ := hM.sbk
  obtain ⟨_, _, hlt, hle⟩ := cut_text hok.cut.1 hR
  have hrl : S.rest.length = S.all.length - S.fr := by unfold Sn.rest; rw [List.length_drop]
  have hkl : k ≤ S.rest.length := by omega
  have HP := Lib.hid (take_any hsbk hM.rst k hkl (by omega) (plof_sm S.all S.fr hok.cut.1 hsm))
  rw [plTo_cut hok.cut k hkl] at HP
  have hnx : S.next F inn nm = { S with fr := S.fr + k, mk' := none } ∧ (nextN F S.all S.fr S.ended inn nm).1 = .tok ⟨tok.kind, tok.name, tok.attrs, [], S.fr + σ.i, S.fr + k⟩ := by
    unfold Sn.next nextN
    unfold Sn.rest at hR
    unfold Sn.rest
    rw [hR]
    dsimp only
    rw [if_neg (by simp [ht]), if_neg (by simp [ht])]
    exact ⟨rfl, rfl⟩
  have c1 := hM.cu.c_i
  rw [hci] at c1
  have hcl := hM.cu.lt
  have htn := hM.tbn
  have hsbw := (hdom sb hfs).2
  obtain ⟨ta, tc, hta, _⟩ := own_slice hM.row
  have hrw := hM.row
  have htb := hM.tbk
  have hane := hM.ne
  rw [hta] at hrw htb hane
  obtain ⟨q0, hq0⟩ : ∃ q, PLof S.all (S.fr + σ.i) = q := ⟨_, rfl⟩
  obtain ⟨q1, hq1⟩ : ∃ q, PLof S.all (S.fr + k) = q := ⟨_, rfl⟩
  have hbs : ∀ j, j ≠ sb → ∀ w4, Kp (· = sb) w3 w4 → j < w3.heap.size → w4.heap[j]? = w3.heap[j]? := fun j hj w4 hk hl => hk.block j hl hj
  have HKB : Hid (∀ w4, Kp (· = sb) w3 w4 → w4.heap[TB]? = some (.cells (tkV tok.kind tok.name (.slice ta tok.attrs.length tc) [] q0 plz) 41 (0, 0)) ∧ w4.heap[w.heap.size]? = some (.cells tkz 41 (0, 0)) ∧ w4.heap[w.heap.size + 1]? = some (.cells (plC plz) 39 (0, 0))) := Lib.hid fun w4 hk => by
    rw [← hq0]
    exact ⟨hk.heap htb (by omega), hk.heap hM.tk (by omega), hk.heap hM.pl (by omega)⟩
  have HEND : Hid (∀ w4, w4.heap[sb]? = some (.cells (scnC (dropV (.slice ra S.rest.length rc) k) q1 S.ended (.pointer none)) 71 (0, 0)) → Kp (· = sb) w3 w4 → ∀ tmps : Array Value, tmps.getD 6 undef = .pointer (some ⟨w.heap.size, 0, none⟩) → tmps.getD 7 undef = .pointer (some ⟨w.heap.size + 1, 0, none⟩) → tmps.getD 8 undef = .int .i64 0 →
      bodyPost Tryd.prog Tryd.f14 (NextR F G w sb S fp inn nm) .ret { tmps := tmps, defers := [] } ((((((w4.setCell ⟨TB, 8, none⟩ (.int .i64 q1.byte)).setCell ⟨TB, 9, none⟩ (.int .i64 q1.rune)).setCell ⟨TB, 10, none⟩ (.int .i64 q1.line)).setCell ⟨TB, 11, none⟩ (.int .i64 q1.col)).setCells w.heap.size 0 (tkV tok.kind tok.name (.slice ta tok.attrs.length tc) [] q0 q1).toList).setCells (w.heap.size + 1) 0 (plC plz).toList)) := Lib.hid (by
    intro w4 hs hk tmps t6 t7 t8
    obtain ⟨kt, kb, kp⟩ := HKB.out w4 hk
    have hK5 : Kp (· = TB) w4 ((((w4.setCell ⟨TB, 8, none⟩ (.int .i64 q1.byte)).setCell ⟨TB, 9, none⟩ (.int .i64 q1.rune)).setCell ⟨TB, 10, none⟩ (.int .i64 q1.line)).setCell ⟨TB, 11, none⟩ (.int .i64 q1.col)) := ((((Kp.refl (· = TB) w4).set (b := TB) (.inl rfl) _ _).set (b := TB) (.inl rfl) _ _).set (b := TB) (.inl rfl) _ _).set (b := TB) (.inl rfl) _ _
    generalize (((w4.setCell ⟨TB, 8, none⟩ (.int .i64 q1.byte)).setCell ⟨TB, 9, none⟩ (.int .i64 q1.rune)).setCell ⟨TB, 10, none⟩ (.int .i64 q1.line)).setCell ⟨TB, 11, none⟩ (.int .i64 q1.col) = w5 at *
    obtain ⟨f1, f2, f3⟩ := out_set (hK5.heap kb (by omega)) (hK5.heap kp (by omega)) (tkV tok.kind tok.name (.slice ta tok.attrs.length tc) [] q0 q1).toList (plC plz).toList rfl rfl
    have hK6 : Kp (fun k => w.heap.size ≤ k) w4 ((w5.setCells w.heap.size 0 (tkV tok.kind tok.name (.slice ta tok.attrs.length tc) [] q0 q1).toList).setCells (w.heap.size + 1) 0 (plC plz).toList) := (hK5.mono fun j _ e => by omega).trans f3 fun j e => .inl (by omega)
    refine next_ret w.heap.size (tkV tok.kind tok.name (.slice ta tok.attrs.length tc) [] q0 q1) (plC plz) rfl rfl (.int .i64 0) t6 t7 t8 f1 f2 rfl ?_
    have hltr := hrw.lt
    refine next_fin hfs hdom h3 hkl hnx.1 (by rw [hq1]; exact hs) (hM.rst.keep fun j e => hbs j (h3 j e).2 w4 hk (Nat.lt_of_lt_of_le (hdom j (h3 j e).1).2 hM.kp.size)) (hM.kp.trans hk fun j e => .inl (by rw [e]; exact hfs)) hK6 hnx.2 (av := .slice ta tok.attrs.length tc) (by dsimp only; rw [hq0, hq1]; rfl) ?_
    refine own_base (own_block hrw fun j e => ?_) (by omega)
    have h1 := hltr j e
    have hjT : j ≠ TB := fun h => hane (by rw [e, h])
    exact (f3.block j (Nat.lt_of_lt_of_le h1.2 (Nat.le_trans hk.size hK5.size)) (by omega)).trans ((hK5.block j (Nat.lt_of_lt_of_le h1.2 hk.size) hjT).trans (hk.block j h1.2 (by omega))))
  rw [hq1] at HP
  have HKC : Hid (∀ w4 : World, w4.heap[w.heap.size]? = some (.cells tkz 41 (0, 0)) → _) := Lib.hid fun w4 h => tk_cells h
  have HKD : Hid (∀ w4 : World, w4.heap[w.heap.size + 1]? = some (.cells (plC plz) 39 (0, 0)) → _) := Lib.hid fun w4 h => pl_cells h
  have HKF : Hid (∀ w4 : World, w4.heap[w.heap.size]? = some (.cells tkz 41 (0, 0)) → ∀ i, w4.frozen? ⟨w.heap.size, i, none⟩ = false) := Lib.hid fun w4 h i => frozen_heap h
  have HKG : Hid (∀ w4 : World, w4.heap[w.heap.size + 1]? = some (.cells (plC plz) 39 (0, 0)) → ∀ i, w4.frozen? ⟨w.heap.size + 1, i, none⟩ = false) := Lib.hid fun w4 h i => frozen_heap h
  clear hM hR ht hrw htb hane hta hbs hnx h3 hdom hfs hsbk hci hq0 hq1 hlt hle hrl hkl hok
  generalize w.heap.size = B at *
  have hTB1 : TB ≠ B := by omega
  have hTB2 : TB ≠ B + 1 := by omega
  have hTB3 : TB ≠ sb := by omega
  have hsB1 : sb ≠ B := by omega
  have hsB2 : sb ≠ B + 1 := by omega
  obtain ⟨t, dd⟩ := a3
  obtain ⟨ha1, rfl⟩ := Act.mk.inj ha
  rw [ha1]
  clear ha ha1
  dsimp only [frN12]
  conv => arg 2; whnf
  go_wp2_with (go_at_call 24; (with_reducible refine HP.out.mono ?_); rintro e1 w4 ⟨rfl, hs, hk⟩; have HE := Lib.hid (HEND.out w4 hs hk); have hsb4 := heap_lt hs; have a1 : w4.cell? ⟨sb, 1, none⟩ = some (.int .i64 q1.byte) := (by rw [cell_heap hs]; rfl); have a2 : w4.cell? ⟨sb, 2, none⟩ = some (.int .i64 q1.rune) := (by rw [cell_heap hs]; rfl); have a3 : w4.cell? ⟨sb, 3, none⟩ = some (.int .i64 q1.line) := (by rw [cell_heap hs]; rfl); have a4 : w4.cell? ⟨sb, 4, none⟩ = some (.int .i64 q1.col) := (by rw [cell_heap hs]; rfl); obtain ⟨kt, kb, kp⟩ := HKB.out w4 hk; have hTl := heap_lt kt; have hBl := heap_lt kb; have hBl1 := heap_lt kp; obtain ⟨r0, r1, r2, r3, r4, r5, r6, r7, r8, r9, r10, r11⟩ := tkv_cells kt; have y0 := fun i => frozen_heap (i := i) kt; obtain ⟨l0, l1, l2, l3, l4, l5, l6, l7, l8, l9, l10, l11⟩ := HKC.out w4 kb; have y1 := HKF.out w4 kb; obtain ⟨g0, g1, g2, g3⟩ := HKD.out w4 kp; have y2 := HKG.out w4 kp; clear hs hk kt kb kp)
  exact HE.out _ rfl rfl rfl
end Go.Proofs.YtjdmndpadejegaaDoor

namespace Go.Proofs.YtjdmndpadejegaaDoor
open Go.RowKit

def cellOr (W : World) (a : Addr) : Value := (W.cell? a).getD undef
theorem cellOr_eq {W : World} {b : Nat} {old : Array Value} {t : TypeId} (h : W.heap[b]? = some (.cells old t (0, 0))) (i : Nat) (hi : i < old.size) : W.cell? ⟨b, i, none⟩ = some (cellOr W ⟨b, i, none⟩) := by
  unfold cellOr
  rw [cell_heap h, Array.getElem?_eq_getElem hi]; rfl
set_option maxRecDepth 100000 in
set_option maxHeartbeats 8000000 in
theorem nx24 (sb B TB inn : Nat) (nm : List UInt8) (old0 : Array Value) (ho0 : old0.size = 12) (va : Option Addr) (vn vc : Nat) (be : Int) (st : Nat) (tx : ByteArray) (q0 q1 : Pl) (w3 : World) (a' : Act) (ha : a' = { tmps := frN12 sb B TB inn nm a'.tmps, defers := [] }) (K K0 : Act → World → Prop) (Post : Ending → World → Prop)
    (hT : w3.heap[TB]? = some (.cells old0 41 (0, 0))) (hcb : B + 1 + 1 < w3.heap.size) (hcT : B + 1 + 1 ≠ TB)
    (c19 : w3.cell? ⟨B + 1 + 1, 19, none⟩ = some (.slice va vn vc)) (c20 : w3.cell? ⟨B + 1 + 1, 20, none⟩ = some (.int .i64 be)) (c18 : w3.cell? ⟨B + 1 + 1, 18, none⟩ = some (.int .i64 st))
    (hcv : ∀ W, Kp (· = TB) w3 W → (convert 26 9 (.slice va vn vc)).run Tryd.prog W = .ok (.string tx) W)
    (hP1 : ∀ W, Kp (· = TB) w3 W → Calls Tryd.prog 23 #[.pointer (some ⟨sb, 0, none⟩), .int .i64 be] W fun e w' => e = .returned (.agg (plC q0)) ∧ Below W.heap.size W w')
    (hP2 : ∀ W, Kp (· = TB) w3 W → Calls Tryd.prog 23 #[.pointer (some ⟨sb, 0, none⟩), .int .i64 st] W fun e w' => e = .returned (.agg (plC q1)) ∧ Below W.heap.size W w')
    (hQ : ∀ a2 w4, a2 = { tmps := frN12 sb B TB inn nm a2.tmps, defers := [] } → Kp (· = TB) w3 w4 → w4.heap[TB]? = some (.cells #[.int .i64 0, .string (strL []), .slice none 0 0, .string tx, .int .i64 q0.byte, .int .i64 q0.rune, .int .i64 q0.line, .int .i64 q0.col, .int .i64 q1.byte, .int .i64 q1.rune, .int .i64 q1.line, .int .i64 q1.col] 41 (0, 0)) → K a2 w4) :
    Code.wp Tryd.prog (((Tryd.f14).body.bind (regNo 24)).getD .skip) (Exit.then K (Exit.then K0 (bodyPost Tryd.prog Tryd.f14 Post))) a' w3 := by
  conv => arg 2; whnf
  have HQ := Lib.hid hQ
  have hTl := heap_lt hT
  obtain ⟨cb, hcbe⟩ : ∃ cb, B + 1 + 1 = cb := ⟨_, rfl⟩
  rw [hcbe] at c18 c19 c20 hcb hcT
  have HCB := Lib.hid hcbe
  have HS : Hid (∀ W, (Kp (· = TB) w3 W ∧ ∃ old : Array Value, old.size = 12 ∧ W.heap[TB]? = some (.cells old 41 (0, 0))) → (W.cell? ⟨cb, 19, none⟩ = some (.slice va vn vc) ∧ W.cell? ⟨cb, 20, none⟩ = some (.int .i64 be) ∧ W.cell? ⟨cb, 18, none⟩ = some (.int .i64 st) ∧ (convert 26 9 (.slice va vn vc)).run Tryd.prog W = .ok (.string tx) W ∧ W.cell? ⟨TB, 0, none⟩ = some (cellOr W ⟨TB, 0, none⟩) ∧ W.cell? ⟨TB, 1, none⟩ = some (cellOr W ⟨TB, 1, none⟩) ∧ W.cell? ⟨TB, 2, none⟩ = some (cellOr W ⟨TB, 2, none⟩) ∧ W.cell? ⟨TB, 3, none⟩ = some (cellOr W ⟨TB, 3, none⟩) ∧ W.cell? ⟨TB, 4, none⟩ = some (cellOr W ⟨TB, 4, none⟩) ∧ W.cell? ⟨TB, 5, none⟩ = some (cellOr W ⟨TB, 5, none⟩) ∧ W.cell? ⟨TB, 6, none⟩ = some (cellOr W ⟨TB, 6, none⟩) ∧ W.cell? ⟨TB, 7, none⟩ = some (cellOr W ⟨TB, 7, none⟩) ∧ W.cell? ⟨TB, 8, none⟩ = some (cellOr W ⟨TB, 8, none⟩) ∧ W.cell? ⟨TB, 9, none⟩ = some (cellOr W ⟨TB, 9, none⟩) ∧ W.cell? ⟨TB, 10, none⟩ = some (cellOr W ⟨TB, 10, none⟩) ∧ W.cell? ⟨TB, 11, none⟩ = some (cellOr W ⟨TB, 11, none⟩) ∧ (∀ i, W.frozen? ⟨TB, i, none⟩ = false) ∧ Hid (Kp (· = TB) w3 W ∧ ∃ old : Array Value, old.size = 12 ∧ W.heap[TB]? = some (.cells old 41 (0, 0))))) := Lib.hid fun W ⟨hk, old, h1, h2⟩ =>
    ⟨(hk.cell (p := ⟨cb, 19, none⟩) hcb hcT).trans c19, (hk.cell (p := ⟨cb, 20, none⟩) hcb hcT).trans c20, (hk.cell (p := ⟨cb, 18, none⟩) hcb hcT).trans c18, hcv W hk, cellOr_eq h2 0 (by omega), cellOr_eq h2 1 (by omega), cellOr_eq h2 2 (by omega), cellOr_eq h2 3 (by omega), cellOr_eq h2 4 (by omega), cellOr_eq h2 5 (by omega), cellOr_eq h2 6 (by omega), cellOr_eq h2 7 (by omega), cellOr_eq h2 8 (by omega), cellOr_eq h2 9 (by omega), cellOr_eq h2 10 (by omega), cellOr_eq h2 11 (by omega), fun i => frozen_heap h2, Lib.hid ⟨hk, old, h1, h2⟩⟩
  have HS0 : Hid (w3.drew.cell? ⟨cb, 19, none⟩ = some (.slice va vn vc) ∧ w3.drew.cell? ⟨cb, 20, none⟩ = some (.int .i64 be) ∧ w3.drew.cell? ⟨cb, 18, none⟩ = some (.int .i64 st) ∧ (convert 26 9 (.slice va vn vc)).run Tryd.prog w3.drew = .ok (.string tx) w3.drew ∧ w3.drew.cell? ⟨TB, 0, none⟩ = some (cellOr w3.drew ⟨TB, 0, none⟩) ∧ w3.drew.cell? ⟨TB, 1, none⟩ = some (cellOr w3.drew ⟨TB, 1, none⟩) ∧ w3.drew.cell? ⟨TB, 2, none⟩ = some (cellOr w3.drew ⟨TB, 2, none⟩) ∧ w3.drew.cell? ⟨TB, 3, none⟩ = some (cellOr w3.drew ⟨TB, 3, none⟩) ∧ w3.drew.cell? ⟨TB, 4, none⟩ = some (cellOr w3.drew ⟨TB, 4, none⟩) ∧ w3.drew.cell? ⟨TB, 5, none⟩ = some (cellOr w3.drew ⟨TB, 5, none⟩) ∧ w3.drew.cell? ⟨TB, 6, none⟩ = some (cellOr w3.drew ⟨TB, 6, none⟩) ∧ w3.drew.cell? ⟨TB, 7, none⟩ = some (cellOr w3.drew ⟨TB, 7, none⟩) ∧ w3.drew.cell? ⟨TB, 8, none⟩ = some (cellOr w3.drew ⟨TB, 8, none⟩) ∧ w3.drew.cell? ⟨TB, 9, none⟩ = some (cellOr w3.drew ⟨TB, 9, none⟩) ∧ w3.drew.cell? ⟨TB, 10, none⟩ = some (cellOr w3.drew ⟨TB, 10, none⟩) ∧ w3.drew.cell? ⟨TB, 11, none⟩ = some (cellOr w3.drew ⟨TB, 11, none⟩) ∧ (∀ i, w3.drew.frozen? ⟨TB, i, none⟩ = false) ∧ Hid (Kp (· = TB) w3 w3.drew ∧ ∃ old : Array Value, old.size = 12 ∧ w3.drew.heap[TB]? = some (.cells old 41 (0, 0)))) := Lib.hid (HS.out _ ⟨(Kp.refl _ w3).drew, old0, ho0, hT⟩)
  have SX : Hid (∀ (W : World) (j : Nat) (v : Value), (W.cell? ⟨cb, 19, none⟩ = some (.slice va vn vc) ∧ W.cell? ⟨cb, 20, none⟩ = some (.int .i64 be) ∧ W.cell? ⟨cb, 18, none⟩ = some (.int .i64 st) ∧ (convert 26 9 (.slice va vn vc)).run Tryd.prog W = .ok (.string tx) W ∧ W.cell? ⟨TB, 0, none⟩ = some (cellOr W ⟨TB, 0, none⟩) ∧ W.cell? ⟨TB, 1, none⟩ = some (cellOr W ⟨TB, 1, none⟩) ∧ W.cell? ⟨TB, 2, none⟩ = some (cellOr W ⟨TB, 2, none⟩) ∧ W.cell? ⟨TB, 3, none⟩ = some (cellOr W ⟨TB, 3, none⟩) ∧ W.cell? ⟨TB, 4, none⟩ = some (cellOr W ⟨TB, 4, none⟩) ∧ W.cell? ⟨TB, 5, none⟩ = some (cellOr W ⟨TB, 5, none⟩) ∧ W.cell? ⟨TB, 6, none⟩ = some (cellOr W ⟨TB, 6, none⟩) ∧ W.cell? ⟨TB, 7, none⟩ = some (cellOr W ⟨TB, 7, none⟩) ∧ W.cell? ⟨TB, 8, none⟩ = some (cellOr W ⟨TB, 8, none⟩) ∧ W.cell? ⟨TB, 9, none⟩ = some (cellOr W ⟨TB, 9, none⟩) ∧ W.cell? ⟨TB, 10, none⟩ = some (cellOr W ⟨TB, 10, none⟩) ∧ W.cell? ⟨TB, 11, none⟩ = some (cellOr W ⟨TB, 11, none⟩) ∧ (∀ i, W.frozen? ⟨TB, i, none⟩ = false) ∧ Hid (Kp (· = TB) w3 W ∧ ∃ old : Array Value, old.size = 12 ∧ W.heap[TB]? = some (.cells old 41 (0, 0)))) → ((W.setCell ⟨TB, j, none⟩ v).cell? ⟨cb, 19, none⟩ = some (.slice va vn vc) ∧ (W.setCell ⟨TB, j, none⟩ v).cell? ⟨cb, 20, none⟩ = some (.int .i64 be) ∧ (W.setCell ⟨TB, j, none⟩ v).cell? ⟨cb, 18, none⟩ = some (.int .i64 st) ∧ (convert 26 9 (.slice va vn vc)).run Tryd.prog (W.setCell ⟨TB, j, none⟩ v) = .ok (.string tx) (W.setCell ⟨TB, j, none⟩ v) ∧ (W.setCell ⟨TB, j, none⟩ v).cell? ⟨TB, 0, none⟩ = some (cellOr (W.setCell ⟨TB, j, none⟩ v) ⟨TB, 0, none⟩) ∧ (W.setCell ⟨TB, j, none⟩ v).cell? ⟨TB, 1, none⟩ = some (cellOr (W.setCell ⟨TB, j, none⟩ v) ⟨TB, 1, none⟩) ∧ (W.setCell ⟨TB, j, none⟩ v).cell? ⟨TB, 2, none⟩ = some (cellOr (W.setCell ⟨TB, j, none⟩ v) ⟨TB, 2, none⟩) ∧ (W.setCell ⟨TB, j, none⟩ v).cell? ⟨TB, 3, none⟩ = some (cellOr (W.setCell ⟨TB, j, none⟩ v) ⟨TB, 3, none⟩) ∧ (W.setCell ⟨TB, j, none⟩ v).cell? ⟨TB, 4, none⟩ = some (cellOr (W.setCell ⟨TB, j, none⟩ v) ⟨TB, 4, none⟩) ∧ (W.setCell ⟨TB, j, none⟩ v).cell? ⟨TB, 5, none⟩ = some (cellOr (W.setCell ⟨TB, j, none⟩ v) ⟨TB, 5, none⟩) ∧ (W.setCell ⟨TB, j, none⟩ v).cell? ⟨TB, 6, none⟩ = some (cellOr (W.setCell ⟨TB, j, none⟩ v) ⟨TB, 6, none⟩) ∧ (W.setCell ⟨TB, j, none⟩ v).cell? ⟨TB, 7, none⟩ = some (cellOr (W.setCell ⟨TB, j, none⟩ v) ⟨TB, 7, none⟩) ∧ (W.setCell ⟨TB, j, none⟩ v).cell? ⟨TB, 8, none⟩ = some (cellOr (W.setCell ⟨TB, j, none⟩ v) ⟨TB, 8, none⟩) ∧ (W.setCell ⟨TB, j, none⟩ v).cell? ⟨TB, 9, none⟩ = some (cellOr (W.setCell ⟨TB, j, none⟩ v) ⟨TB, 9, none⟩) ∧ (W.setCell ⟨TB, j, none⟩ v).cell? ⟨TB, 10, none⟩ = some (cellOr (W.setCell ⟨TB, j, none⟩ v) ⟨TB, 10, none⟩) ∧ (W.setCell ⟨TB, j, none⟩ v).cell? ⟨TB, 11, none⟩ = some (cellOr (W.setCell ⟨TB, j, none⟩ v) ⟨TB, 11, none⟩) ∧ (∀ i, (W.setCell ⟨TB, j, none⟩ v).frozen? ⟨TB, i, none⟩ = false) ∧ Hid (Kp (· = TB) w3 (W.setCell ⟨TB, j, none⟩ v) ∧ ∃ old : Array Value, old.size = 12 ∧ (W.setCell ⟨TB, j, none⟩ v).heap[TB]? = some (.cells old 41 (0, 0))))) := Lib.hid fun W j v h => HS.out _ (by
    obtain ⟨_, _, _, _, _, _, _, _, _, _, _, _, _, _, _, _, _, hh⟩ := h
    obtain ⟨hk, old, h1, h2⟩ := hh.out
    exact ⟨hk.set (b := TB) (.inl rfl) j v, _, by simpa using h1, setCell_heap h2 v⟩)
  have HC : Hid (∀ W w' : World, (W.cell? ⟨cb, 19, none⟩ = some (.slice va vn vc) ∧ W.cell? ⟨cb, 20, none⟩ = some (.int .i64 be) ∧ W.cell? ⟨cb, 18, none⟩ = some (.int .i64 st) ∧ (convert 26 9 (.slice va vn vc)).run Tryd.prog W = .ok (.string tx) W ∧ W.cell? ⟨TB, 0, none⟩ = some (cellOr W ⟨TB, 0, none⟩) ∧ W.cell? ⟨TB, 1, none⟩ = some (cellOr W ⟨TB, 1, none⟩) ∧ W.cell? ⟨TB, 2, none⟩ = some (cellOr W ⟨TB, 2, none⟩) ∧ W.cell? ⟨TB, 3, none⟩ = some (cellOr W ⟨TB, 3, none⟩) ∧ W.cell? ⟨TB, 4, none⟩ = some (cellOr W ⟨TB, 4, none⟩) ∧ W.cell? ⟨TB, 5, none⟩ = some (cellOr W ⟨TB, 5, none⟩) ∧ W.cell? ⟨TB, 6, none⟩ = some (cellOr W ⟨TB, 6, none⟩) ∧ W.cell? ⟨TB, 7, none⟩ = some (cellOr W ⟨TB, 7, none⟩) ∧ W.cell? ⟨TB, 8, none⟩ = some (cellOr W ⟨TB, 8, none⟩) ∧ W.cell? ⟨TB, 9, none⟩ = some (cellOr W ⟨TB, 9, none⟩) ∧ W.cell? ⟨TB, 10, none⟩ = some (cellOr W ⟨TB, 10, none⟩) ∧ W.cell? ⟨TB, 11, none⟩ = some (cellOr W ⟨TB, 11, none⟩) ∧ (∀ i, W.frozen? ⟨TB, i, none⟩ = false) ∧ Hid (Kp (· = TB) w3 W ∧ ∃ old : Array Value, old.size = 12 ∧ W.heap[TB]? = some (.cells old 41 (0, 0)))) → Below W.heap.size W w' → (w'.cell? ⟨cb, 19, none⟩ = some (.slice va vn vc) ∧ w'.cell? ⟨cb, 20, none⟩ = some (.int .i64 be) ∧ w'.cell? ⟨cb, 18, none⟩ = some (.int .i64 st) ∧ (convert 26 9 (.slice va vn vc)).run Tryd.prog w' = .ok (.string tx) w' ∧ w'.cell? ⟨TB, 0, none⟩ = some (cellOr w' ⟨TB, 0, none⟩) ∧ w'.cell? ⟨TB, 1, none⟩ = some (cellOr w' ⟨TB, 1, none⟩) ∧ w'.cell? ⟨TB, 2, none⟩ = some (cellOr w' ⟨TB, 2, none⟩) ∧ w'.cell? ⟨TB, 3, none⟩ = some (cellOr w' ⟨TB, 3, none⟩) ∧ w'.cell? ⟨TB, 4, none⟩ = some (cellOr w' ⟨TB, 4, none⟩) ∧ w'.cell? ⟨TB, 5, none⟩ = some (cellOr w' ⟨TB, 5, none⟩) ∧ w'.cell? ⟨TB, 6, none⟩ = some (cellOr w' ⟨TB, 6, none⟩) ∧ w'.cell? ⟨TB, 7, none⟩ = some (cellOr w' ⟨TB, 7, none⟩) ∧ w'.cell? ⟨TB, 8, none⟩ = some (cellOr w' ⟨TB, 8, none⟩) ∧ w'.cell? ⟨TB, 9, none⟩ = some (cellOr w' ⟨TB, 9, none⟩) ∧ w'.cell? ⟨TB, 10, none⟩ = some (cellOr w' ⟨TB, 10, none⟩) ∧ w'.cell? ⟨TB, 11, none⟩ = some (cellOr w' ⟨TB, 11, none⟩) ∧ (∀ i, w'.frozen? ⟨TB, i, none⟩ = false) ∧ Hid (Kp (· = TB) w3 w' ∧ ∃ old : Array Value, old.size = 12 ∧ w'.heap[TB]? = some (.cells old 41 (0, 0))))) := Lib.hid fun W w' h hb => HS.out _ (by
    obtain ⟨_, _, _, _, _, _, _, _, _, _, _, _, _, _, _, _, _, hh⟩ := h
    obtain ⟨hk, old, h1, h2⟩ := hh.out
    exact ⟨hk.on hb, old, h1, (hb.block TB (heap_lt h2)).trans h2⟩)
  have HQ1 : Hid (∀ W, (W.cell? ⟨cb, 19, none⟩ = some (.slice va vn vc) ∧ W.cell? ⟨cb, 20, none⟩ = some (.int .i64 be) ∧ W.cell? ⟨cb, 18, none⟩ = some (.int .i64 st) ∧ (convert 26 9 (.slice va vn vc)).run Tryd.prog W = .ok (.string tx) W ∧ W.cell? ⟨TB, 0, none⟩ = some (cellOr W ⟨TB, 0, none⟩) ∧ W.cell? ⟨TB, 1, none⟩ = some (cellOr W ⟨TB, 1, none⟩) ∧ W.cell? ⟨TB, 2, none⟩ = some (cellOr W ⟨TB, 2, none⟩) ∧ W.cell? ⟨TB, 3, none⟩ = some (cellOr W ⟨TB, 3, none⟩) ∧ W.cell? ⟨TB, 4, none⟩ = some (cellOr W ⟨TB, 4, none⟩) ∧ W.cell? ⟨TB, 5, none⟩ = some (cellOr W ⟨TB, 5, none⟩) ∧ W.cell? ⟨TB, 6, none⟩ = some (cellOr W ⟨TB, 6, none⟩) ∧ W.cell? ⟨TB, 7, none⟩ = some (cellOr W ⟨TB, 7, none⟩) ∧ W.cell? ⟨TB, 8, none⟩ = some (cellOr W ⟨TB, 8, none⟩) ∧ W.cell? ⟨TB, 9, none⟩ = some (cellOr W ⟨TB, 9, none⟩) ∧ W.cell? ⟨TB, 10, none⟩ = some (cellOr W ⟨TB, 10, none⟩) ∧ W.cell? ⟨TB, 11, none⟩ = some (cellOr W ⟨TB, 11, none⟩) ∧ (∀ i, W.frozen? ⟨TB, i, none⟩ = false) ∧ Hid (Kp (· = TB) w3 W ∧ ∃ old : Array Value, old.size = 12 ∧ W.heap[TB]? = some (.cells old 41 (0, 0)))) → Calls Tryd.prog 23 #[.pointer (some ⟨sb, 0, none⟩), .int .i64 be] W fun e w' => e = .returned (.agg (plC q0)) ∧ (w'.cell? ⟨cb, 19, none⟩ = some (.slice va vn vc) ∧ w'.cell? ⟨cb, 20, none⟩ = some (.int .i64 be) ∧ w'.cell? ⟨cb, 18, none⟩ = some (.int .i64 st) ∧ (convert 26 9 (.slice va vn vc)).run Tryd.prog w' = .ok (.string tx) w' ∧ w'.cell? ⟨TB, 0, none⟩ = some (cellOr w' ⟨TB, 0, none⟩) ∧ w'.cell? ⟨TB, 1, none⟩ = some (cellOr w' ⟨TB, 1, none⟩) ∧ w'.cell? ⟨TB, 2, none⟩ = some (cellOr w' ⟨TB, 2, none⟩) ∧ w'.cell? ⟨TB, 3, none⟩ = some (cellOr w' ⟨TB, 3, none⟩) ∧ w'.cell? ⟨TB, 4, none⟩ = some (cellOr w' ⟨TB, 4, none⟩) ∧ w'.cell? ⟨TB, 5, none⟩ = some (cellOr w' ⟨TB, 5, none⟩) ∧ w'.cell? ⟨TB, 6, none⟩ = some (cellOr w' ⟨TB, 6, none⟩) ∧ w'.cell? ⟨TB, 7, none⟩ = some (cellOr w' ⟨TB, 7, none⟩) ∧ w'.cell? ⟨TB, 8, none⟩ = some (cellOr w' ⟨TB, 8, none⟩) ∧ w'.cell? ⟨TB, 9, none⟩ = some (cellOr w' ⟨TB, 9, none⟩) ∧ w'.cell? ⟨TB, 10, none⟩ = some (cellOr w' ⟨TB, 10, none⟩) ∧ w'.cell? ⟨TB, 11, none⟩ = some (cellOr w' ⟨TB, 11, none⟩) ∧ (∀ i, w'.frozen? ⟨TB, i, none⟩ = false) ∧ Hid (Kp (· = TB) w3 w' ∧ ∃ old : Array Value, old.size = 12 ∧ w'.heap[TB]? = some (.cells old 41 (0, 0))))) := Lib.hid fun W h => (hP1 W h.2.2.2.2.2.2.2.2.2.2.2.2.2.2.2.2.2.out.1).mono fun e w' h' => ⟨h'.1, HC.out W w' h h'.2⟩
  have HQ2 : Hid (∀ W, (W.cell? ⟨cb, 19, none⟩ = some (.slice va vn vc) ∧ W.cell? ⟨cb, 20, none⟩ = some (.int .i64 be) ∧ W.cell? ⟨cb, 18, none⟩ = some (.int .i64 st) ∧ (convert 26 9 (.slice va vn vc)).run Tryd.prog W = .ok (.string tx) W ∧ W.cell? ⟨TB, 0, none⟩ = some (cellOr W ⟨TB, 0, none⟩) ∧ W.cell? ⟨TB, 1, none⟩ = some (cellOr W ⟨TB, 1, none⟩) ∧ W.cell? ⟨TB, 2, none⟩ = some (cellOr W ⟨TB, 2, none⟩) ∧ W.cell? ⟨TB, 3, none⟩ = some (cellOr W ⟨TB, 3, none⟩) ∧ W.cell? ⟨TB, 4, none⟩ = some (cellOr W ⟨TB, 4, none⟩) ∧ W.cell? ⟨TB, 5, none⟩ = some (cellOr W ⟨TB, 5, none⟩) ∧ W.cell? ⟨TB, 6, none⟩ = some (cellOr W ⟨TB, 6, none⟩) ∧ W.cell? ⟨TB, 7, none⟩ = some (cellOr W ⟨TB, 7, none⟩) ∧ W.cell? ⟨TB, 8, none⟩ = some (cellOr W ⟨TB, 8, none⟩) ∧ W.cell? ⟨TB, 9, none⟩ = some (cellOr W ⟨TB, 9, none⟩) ∧ W.cell? ⟨TB, 10, none⟩ = some (cellOr W ⟨TB, 10, none⟩) ∧ W.cell? ⟨TB, 11, none⟩ = some (cellOr W ⟨TB, 11, none⟩) ∧ (∀ i, W.frozen? ⟨TB, i, none⟩ = false) ∧ Hid (Kp (· = TB) w3 W ∧ ∃ old : Array Value, old.size = 12 ∧ W.heap[TB]? = some (.cells old 41 (0, 0)))) → Calls Tryd.prog 23 #[.pointer (some ⟨sb, 0, none⟩), .int .i64 st] W fun e w' => e = .returned (.agg (plC q1)) ∧ (w'.cell? ⟨cb, 19, none⟩ = some (.slice va vn vc) ∧ w'.cell? ⟨cb, 20, none⟩ = some (.int .i64 be) ∧ w'.cell? ⟨cb, 18, none⟩ = some (.int .i64 st) ∧ (convert 26 9 (.slice va vn vc)).run Tryd.prog w' = .ok (.string tx) w' ∧ w'.cell? ⟨TB, 0, none⟩ = some (cellOr w' ⟨TB, 0, none⟩) ∧ w'.cell? ⟨TB, 1, none⟩ = some (cellOr w' ⟨TB, 1, none⟩) ∧ w'.cell? ⟨TB, 2, none⟩ = some (cellOr w' ⟨TB, 2, none⟩) ∧ w'.cell? ⟨TB, 3, none⟩ = some (cellOr w' ⟨TB, 3, none⟩) ∧ w'.cell? ⟨TB, 4, none⟩ = some (cellOr w' ⟨TB, 4, none⟩) ∧ w'.cell? ⟨TB, 5, none⟩ = some (cellOr w' ⟨TB, 5, none⟩) ∧ w'.cell? ⟨TB, 6, none⟩ = some (cellOr w' ⟨TB, 6, none⟩) ∧ w'.cell? ⟨TB, 7, none⟩ = some (cellOr w' ⟨TB, 7, none⟩) ∧ w'.cell? ⟨TB, 8, none⟩ = some (cellOr w' ⟨TB, 8, none⟩) ∧ w'.cell? ⟨TB, 9, none⟩ = some (cellOr w' ⟨TB, 9, none⟩) ∧ w'.cell? ⟨TB, 10, none⟩ = some (cellOr w' ⟨TB, 10, none⟩) ∧ w'.cell? ⟨TB, 11, none⟩ = some (cellOr w' ⟨TB, 11, none⟩) ∧ (∀ i, w'.frozen? ⟨TB, i, none⟩ = false) ∧ Hid (Kp (· = TB) w3 w' ∧ ∃ old : Array Value, old.size = 12 ∧ w'.heap[TB]? = some (.cells old 41 (0, 0))))) := Lib.hid fun W h => (hP2 W h.2.2.2.2.2.2.2.2.2.2.2.2.2.2.2.2.2.out.1).mono fun e w' h' => ⟨h'.1, HC.out W w' h h'.2⟩
  obtain ⟨t, dd⟩ := a'
  obtain ⟨ha1, rfl⟩ := Act.mk.inj ha
  rw [ha1]
  clear ha ha1 hQ hP1 hP2 hcv hT c18 c19 c20 ho0
  dsimp only [frN12]
  rw [hcbe]
  clear hcbe
  go_region_held3 (fun w' => w'.cell? ⟨cb, 19, none⟩ = some (.slice va vn vc) ∧ w'.cell? ⟨cb, 20, none⟩ = some (.int .i64 be) ∧ w'.cell? ⟨cb, 18, none⟩ = some (.int .i64 st) ∧ (convert 26 9 (.slice va vn vc)).run Tryd.prog w' = .ok (.string tx) w' ∧ w'.cell? ⟨TB, 0, none⟩ = some (cellOr w' ⟨TB, 0, none⟩) ∧ w'.cell? ⟨TB, 1, none⟩ = some (cellOr w' ⟨TB, 1, none⟩) ∧ w'.cell? ⟨TB, 2, none⟩ = some (cellOr w' ⟨TB, 2, none⟩) ∧ w'.cell? ⟨TB, 3, none⟩ = some (cellOr w' ⟨TB, 3, none⟩) ∧ w'.cell? ⟨TB, 4, none⟩ = some (cellOr w' ⟨TB, 4, none⟩) ∧ w'.cell? ⟨TB, 5, none⟩ = some (cellOr w' ⟨TB, 5, none⟩) ∧ w'.cell? ⟨TB, 6, none⟩ = some (cellOr w' ⟨TB, 6, none⟩) ∧ w'.cell? ⟨TB, 7, none⟩ = some (cellOr w' ⟨TB, 7, none⟩) ∧ w'.cell? ⟨TB, 8, none⟩ = some (cellOr w' ⟨TB, 8, none⟩) ∧ w'.cell? ⟨TB, 9, none⟩ = some (cellOr w' ⟨TB, 9, none⟩) ∧ w'.cell? ⟨TB, 10, none⟩ = some (cellOr w' ⟨TB, 10, none⟩) ∧ w'.cell? ⟨TB, 11, none⟩ = some (cellOr w' ⟨TB, 11, none⟩) ∧ (∀ i, w'.frozen? ⟨TB, i, none⟩ = false) ∧ Hid (Kp (· = TB) w3 w' ∧ ∃ old : Array Value, old.size = 12 ∧ w'.heap[TB]? = some (.cells old 41 (0, 0)))) (first | (with_reducible assumption) | (with_reducible exact HS0.out) | (with_reducible exact SX.out _ _ _ (SX.out _ _ _ (SX.out _ _ _ (SX.out _ _ _ (SX.out _ _ _ (SX.out _ _ _ (SX.out _ _ _ (SX.out _ _ _ (SX.out _ _ _ (SX.out _ _ _ (SX.out _ _ _ (SX.out _ _ _ ‹_›)))))))))))) | fail)
    (first
    | (go_at_call 23; (with_reducible refine (HQ1.out _ ‹_›).mono ?_); rintro e1 wz ⟨he, hbz⟩; obtain rfl : e1 = .returned (.agg #[.int .i64 q0.byte, .int .i64 q0.rune, .int .i64 q0.line, .int .i64 q0.col]) := he)
    | (go_at_call 23; (with_reducible refine (HQ2.out _ ‹_›).mono ?_); rintro e1 wz ⟨he, hbz⟩; obtain rfl : e1 = .returned (.agg #[.int .i64 q1.byte, .int .i64 q1.rune, .int .i64 q1.line, .int .i64 q1.col]) := he))
  all_goals
    obtain ⟨_, _, _, _, _, _, _, _, _, _, _, _, _, _, _, _, _, hh⟩ := hbz
    obtain ⟨hk, old, h1, h2⟩ := hh.out
    obtain ⟨g1, g2⟩ := row_set (B := TB) (old := old.toList) (by simpa using h2) [.int .i64 0, .string (strL []), .slice none 0 0, .string tx, .int .i64 q0.byte, .int .i64 q0.rune, .int .i64 q0.line, .int .i64 q0.col, .int .i64 q1.byte, .int .i64 q1.rune, .int .i64 q1.line, .int .i64 q1.col] (by rw [Array.length_toList, h1]; rfl)
    obtain rfl := HCB.out
    exact HQ.out _ _ (by rfl) (hk.trans g2 fun k e => .inl e) g1
end Go.Proofs.YtjdmndpadejegaaDoor
