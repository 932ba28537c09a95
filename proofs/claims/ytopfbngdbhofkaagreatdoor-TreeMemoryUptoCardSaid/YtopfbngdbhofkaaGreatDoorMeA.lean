/-
  The law's same and all: of events that are alike they say true.
-/
import Derived.Test.YtopfbngdbhofkaaGreatDoorItJ
import Derived.Test.YtopfbngdbhofkaaGreatDoorItI
import Derived.Test.YtopfbngdbhofkaaGreatDoorItZC
import Derived.Test.YtopfbngdbhofkaaGreatDoorItW
namespace Go.Proofs.YtopfbngdbhofkaaGreatDoor
open Go.RowKit

set_option maxRecDepth 1000000 in
set_option maxHeartbeats 4000000 in
/-- an event and itself, wherever their attributes lie -/
theorem same_any (ev : Ev) (A B : Option Addr) (m c m2 c2 : Nat) (w : World) (hA : AttrsAt w A m ev.ats) (hB : AttrsAt w B m2 ev.ats) (hm : m ≤ 1048576) :
    Calls Tryz.prog 20 #[.agg (evC ev.kind ev.num ev.dep ev.name A m c ev.text ev.fr ev.tt), .agg (evC ev.kind ev.num ev.dep ev.name B m2 c2 ev.text ev.fr ev.tt)] w fun e w' => e = .returned (.bool true) ∧ Below w.heap.size w w' := by
  obtain ⟨kd, num, dep, name, ats, text, fr, tt⟩ := ev
  simp only at hA hB ⊢
  have hmm : m2 = m := by rw [hA.1, hB.1]
  subst hmm
  unfold evC
  go_enter Tryz.func20, Tryz.ntmps20
  go_wp2_with fail
  obtain ⟨W0, hW0⟩ : ∃ W0, (w.alloc (.cells #[.int .i64 kd, .int .i64 num, .int .i64 dep, .string (strL name), .slice A m2 c, .string (strL text), .int .i64 fr, .int .i64 tt] 50)).alloc (.cells #[.int .i64 kd, .int .i64 num, .int .i64 dep, .string (strL name), .slice B m2 c2, .string (strL text), .int .i64 fr, .int .i64 tt] 50) = W0 := ⟨_, rfl⟩
  have hbW : Below w.heap.size w W0 := by rw [← hW0]; exact ((Below.refl _ w).alloc (Nat.le_refl _) _).alloc (by simp) _
  have h4 : W0.cell? ⟨w.heap.size, 4, none⟩ = some (.slice A m2 c) := by rw [← hW0]; simp
  have h5 : W0.cell? ⟨w.heap.size + 1, 4, none⟩ = some (.slice B m2 c2) := by rw [← hW0]; simp
  have hsz : W0.heap.size = w.heap.size + 2 := by rw [← hW0]; simp
  rw [hW0]
  clear hW0
  have HBW := Lib.hid hbW
  have HAB := Lib.hid (⟨hA.below hbW, hB.below hbW⟩ : _ ∧ _)
  have HAL := Lib.hid hA.1
  clear hA hB hbW
  go_loopw [5] (fun iv wr => ∃ i : Nat, iv = .int .i64 i ∧ i ≤ m2 ∧ Below W0.heap.size W0 wr) (fun iv _ => m2 - (intOf iv).toNat)
  case atStart => exact ⟨0, rfl, Nat.zero_le _, Below.refl _ _⟩
  case round =>
    obtain ⟨i, rfl, hi, hbr⟩ := hrel
    have f4 := (hbr.cell (p := ⟨w.heap.size, 4, none⟩) (by simp only; omega)).trans h4
    have f5 := (hbr.cell (p := ⟨w.heap.size + 1, 4, none⟩) (by simp only; omega)).trans h5
    by_cases him : i < m2
    · obtain ⟨b1, o1, rfl, _, p1, q1⟩ := (HAB.out.1.below hbr).2 i (by have := HAL.out; omega)
      obtain ⟨b2, o2, rfl, _, p2, q2⟩ := (HAB.out.2.below hbr).2 i (by have := HAL.out; omega)
      have i1 : (0 : Int) ≤ (i : Int) := by omega
      have i2 : (i : Int) < (m2 : Int) := by omega
      have ew : IntKind.i64.wrap ((i : Int) + 1) = (i : Int) + 1 := IntWalk.i64_in _ (by omega)
      generalize strL (ats[i]'(by have := HAL.out; omega)).1 = x1 at *
      generalize strL (ats[i]'(by have := HAL.out; omega)).2 = x2 at *
      have HBR := Lib.hid hbr.drew
      clear hbr
      go_wp2_with fail
      go_region
      go_wp2_with fail
      go_roundw
      case rel => exact ⟨i + 1, by go_num, by omega, HBR.out⟩
      case measure => simp [intOf]; omega
    · have him2 : i = m2 := by omega
      subst him2
      have HBR := Lib.hid hbr
      clear hbr
      go_wp2_with fail
      go_ret
      exact ⟨rfl, HBW.out.trans (HBR.out.mono HBW.out.size)⟩
set_option maxRecDepth 1000000 in
set_option maxHeartbeats 4000000 in
/-- events and themselves, wherever they lie -/
theorem all_any (a b : Option Addr) (n c d : Nat) (evs : List Ev) (w : World) (hA : EvsAt w a n evs) (hB : EvsAt w b n evs) (hn : n ≤ 1048576) (hl : ∀ e ∈ evs, e.ats.length ≤ 1048576) :
    Calls Tryz.prog 16 #[.slice a n c, .slice b n d] w fun e w' => e = .returned (.bool true) ∧ Below w.heap.size w w' := by
  have HA := Lib.hid hA
  have HB := Lib.hid hB
  have HN : Hid (n = evs.length) := Lib.hid hA.1
  have HL := Lib.hid hl
  clear hA hB hl
  go_enter Tryz.func16, Tryz.ntmps16
  go_wp2_with fail
  go_loopw [5] (fun iv wr => ∃ i : Nat, iv = .int .i64 i ∧ i ≤ n ∧ Below w.heap.size w wr) (fun iv _ => n - (intOf iv).toNat)
  case atStart => exact ⟨0, rfl, Nat.zero_le _, Below.refl _ _⟩
  case round =>
    obtain ⟨i, rfl, hi, hbr⟩ := hrel
    by_cases hin : i < n
    · have hil : i < evs.length := by rw [← HN.out]; exact hin
      obtain ⟨b1, o1, A1, m1, c1, rfl, _, _, hA1, k1⟩ := HA.out.at8 i hil
      obtain ⟨b2, o2, A2, m2, c2, rfl, _, _, hA2, k2⟩ := HB.out.at8 i hil
      obtain ⟨e0, e1, e2, e3, e4, e5, e6, e7⟩ := k1 wr hbr
      obtain ⟨g0, g1, g2, g3, g4, g5, g6, g7⟩ := k2 wr hbr
      have hml : m1 ≤ 1048576 := by rw [hA1.1]; exact HL.out _ (List.getElem_mem hil)
      have i1 : (0 : Int) ≤ (i : Int) := by omega
      have i2 : (i : Int) < (n : Int) := by omega
      have ew : IntKind.i64.wrap ((i : Int) + 1) = (i : Int) + 1 := IntWalk.i64_in _ (by omega)
      have HSAME : Hid (∀ W, Below w.heap.size w W → Calls Tryz.prog 20 #[.agg (evC evs[i].kind evs[i].num evs[i].dep evs[i].name A1 m1 c1 evs[i].text evs[i].fr evs[i].tt), .agg (evC evs[i].kind evs[i].num evs[i].dep evs[i].name A2 m2 c2 evs[i].text evs[i].fr evs[i].tt)] W fun e w' => e = .returned (.bool true) ∧ Below W.heap.size W w') := Lib.hid fun W hW => same_any evs[i] A1 A2 m1 c1 m2 c2 W (hA1.below hW) (hA2.below hW) hml
      have HS : Hid (∀ W, Below w.heap.size w W → W.cell? ⟨b1, o1 + i * 8, none⟩ = some (.int .i64 evs[i].kind) ∧ W.cell? ⟨b1, o1 + i * 8 + 1, none⟩ = some (.int .i64 evs[i].num) ∧ W.cell? ⟨b1, o1 + i * 8 + 2, none⟩ = some (.int .i64 evs[i].dep) ∧ W.cell? ⟨b1, o1 + i * 8 + 3, none⟩ = some (.string (strL evs[i].name)) ∧ W.cell? ⟨b1, o1 + i * 8 + 4, none⟩ = some (.slice A1 m1 c1) ∧ W.cell? ⟨b1, o1 + i * 8 + 5, none⟩ = some (.string (strL evs[i].text)) ∧ W.cell? ⟨b1, o1 + i * 8 + 6, none⟩ = some (.int .i64 evs[i].fr) ∧ W.cell? ⟨b1, o1 + i * 8 + 7, none⟩ = some (.int .i64 evs[i].tt) ∧ W.cell? ⟨b2, o2 + i * 8, none⟩ = some (.int .i64 evs[i].kind) ∧ W.cell? ⟨b2, o2 + i * 8 + 1, none⟩ = some (.int .i64 evs[i].num) ∧ W.cell? ⟨b2, o2 + i * 8 + 2, none⟩ = some (.int .i64 evs[i].dep) ∧ W.cell? ⟨b2, o2 + i * 8 + 3, none⟩ = some (.string (strL evs[i].name)) ∧ W.cell? ⟨b2, o2 + i * 8 + 4, none⟩ = some (.slice A2 m2 c2) ∧ W.cell? ⟨b2, o2 + i * 8 + 5, none⟩ = some (.string (strL evs[i].text)) ∧ W.cell? ⟨b2, o2 + i * 8 + 6, none⟩ = some (.int .i64 evs[i].fr) ∧ W.cell? ⟨b2, o2 + i * 8 + 7, none⟩ = some (.int .i64 evs[i].tt) ∧ Below w.heap.size w W) := Lib.hid fun W hW => by
        obtain ⟨p0, p1, p2, p3, p4, p5, p6, p7⟩ := k1 W hW
        obtain ⟨q0, q1, q2, q3, q4, q5, q6, q7⟩ := k2 W hW
        exact ⟨p0, p1, p2, p3, p4, p5, p6, p7, q0, q1, q2, q3, q4, q5, q6, q7, hW⟩
      have HBR := Lib.hid hbr
      have HDR := hbr.drew
      clear hA1 hA2 k1 k2 hbr
      unfold evC at HSAME
      generalize evs[i] = ev at *
      go_wp2_with fail
      go_region_held3 (fun w' => w'.cell? ⟨b1, o1 + i * 8, none⟩ = some (.int .i64 ev.kind) ∧ w'.cell? ⟨b1, o1 + i * 8 + 1, none⟩ = some (.int .i64 ev.num) ∧ w'.cell? ⟨b1, o1 + i * 8 + 2, none⟩ = some (.int .i64 ev.dep) ∧ w'.cell? ⟨b1, o1 + i * 8 + 3, none⟩ = some (.string (strL ev.name)) ∧ w'.cell? ⟨b1, o1 + i * 8 + 4, none⟩ = some (.slice A1 m1 c1) ∧ w'.cell? ⟨b1, o1 + i * 8 + 5, none⟩ = some (.string (strL ev.text)) ∧ w'.cell? ⟨b1, o1 + i * 8 + 6, none⟩ = some (.int .i64 ev.fr) ∧ w'.cell? ⟨b1, o1 + i * 8 + 7, none⟩ = some (.int .i64 ev.tt) ∧ w'.cell? ⟨b2, o2 + i * 8, none⟩ = some (.int .i64 ev.kind) ∧ w'.cell? ⟨b2, o2 + i * 8 + 1, none⟩ = some (.int .i64 ev.num) ∧ w'.cell? ⟨b2, o2 + i * 8 + 2, none⟩ = some (.int .i64 ev.dep) ∧ w'.cell? ⟨b2, o2 + i * 8 + 3, none⟩ = some (.string (strL ev.name)) ∧ w'.cell? ⟨b2, o2 + i * 8 + 4, none⟩ = some (.slice A2 m2 c2) ∧ w'.cell? ⟨b2, o2 + i * 8 + 5, none⟩ = some (.string (strL ev.text)) ∧ w'.cell? ⟨b2, o2 + i * 8 + 6, none⟩ = some (.int .i64 ev.fr) ∧ w'.cell? ⟨b2, o2 + i * 8 + 7, none⟩ = some (.int .i64 ev.tt) ∧ Below w.heap.size w w') (first | exact HS.out _ ‹_› | exact HS.out _ HDR) (first | (go_at_call 20; (with_reducible refine (HSAME.out _ ‹_›).mono ?_); rintro e w3 ⟨rfl, hb3⟩; have hb4 := (‹Below w.heap.size w _›).trans (hb3.mono (‹Below w.heap.size w _›).size)))
      have HB4 := Lib.hid hb4
      clear hb4 hb3
      go_wp2_with fail
      go_roundw
      case rel => exact ⟨i + 1, by go_num, by omega, HB4.out⟩
      case measure => simp [intOf]; omega
    · have hi2 : i = n := by omega
      subst hi2
      have HBR := Lib.hid hbr
      clear hbr
      go_wp2_with fail
      go_ret
      exact ⟨rfl, HBR.out⟩
end Go.Proofs.YtopfbngdbhofkaaGreatDoor

/-
  tree.one: an event as new memory, its attributes owned.
-/
namespace Go.Proofs.YtopfbngdbhofkaaGreatDoor
open Go.RowKit

theorem own_baseF {w : World} {base base' : Nat} {e : TypeId} {size : Nat} {v : Value} {k : Nat} {xs : List Value} (h : w.ownsRow base e size v k xs) (hb : base' ≤ base) : w.ownsRow base' e size v k xs := by
  refine ⟨h.1, ?_⟩
  rcases h.2 with h2 | ⟨g, cap, cur, h1, h3, h4⟩
  · exact .inl h2
  · exact .inr ⟨g, cap, cur, h1, Nat.le_trans hb h3, h4⟩
set_option maxRecDepth 1000000 in
set_option maxHeartbeats 4000000 in
theorem oneF_any (ek en ed efr ett : Int) (ename etext : List UInt8) (A : Option Addr) (m c : Nat) (ats : List (List UInt8 × List UInt8)) (w : World) (hA : AttrsAt w A m ats) (hm : m ≤ 1048576) :
    Calls Tryz.prog 37 #[.agg (evC ek en ed ename A m c etext efr ett)] w fun e w' => ∃ A' c', e = .returned (.agg (evC ek en ed ename A' m c' etext efr ett)) ∧ w'.ownsRow w.heap.size 63 2 (.slice A' m c') m (atC ats) ∧ Below w.heap.size w w' := by
  obtain ⟨i0, hi, hz0, hz1, hz2⟩ := info_parts infoAttr
  have HA := Lib.hid hA
  clear hA
  unfold evC
  generalize strL ename = N
  generalize strL etext = X
  have HB : Hid (∀ o o', Below w.heap.size w ((w.alloc o).alloc o')) := Lib.hid fun o o' => ((Below.refl w.heap.size w).alloc (Nat.le_refl _) o).alloc (by simp) o'
  have K1 : ∀ o o', ((w.alloc o).alloc o').heap[w.heap.size]? = some o := fun o o' => (Below.heap_alloc _ _ _ (by simp)).trans (heap_alloc_new w o)
  have K2 : ∀ o o', ((w.alloc o).alloc o').heap[w.heap.size + 1]? = some o' := fun o o' => by have := heap_alloc_new (w.alloc o) o'; simpa using this
  have K1 := Lib.hid K1
  have K2 := Lib.hid K2
  have KS : Hid (∀ o o', ((w.alloc o).alloc o').heap.size = w.heap.size + 2) := Lib.hid fun o o' => by simp
  go_enter Tryz.func37, Tryz.ntmps37
  go_wp2_with (at_builtin; go_must ((refine wpList_app_row _ (by rfl) _ _ 48 (by rfl) (w.heap.size + 2) 63 i0 (.agg #[.string ⟨#[]⟩, .string ⟨#[]⟩]) 2 32 Tryz.underlying48 hi hz0 hz1 hz2 (by rfl) (by decide) (.slice none 0 0) 0 [] (by rfl) (World.ownsRow_nil _ _ _ _) A m c (atC ats) (by rfl) (by rw [atC_length, HA.out.1]) (fun ad ha j u hj => (HA.out.below (HB.out _ _)).cells ad ha j u hj) (HA.out.none) (atC_one ats) (by omega) (by decide) (by rw [KS.out]; exact Nat.le_refl _) (fun v' w1 hown hap => ?_)); (have hown' : w1.ownsRow (w.heap.size + 2) 63 2 v' m (atC ats) := (by simpa using hown)); (obtain ⟨A', c', rfl, _, _, _⟩ := own_attrs hown'); have HOWN := Lib.hid hown'; have k1 := (hap.keep (k := w.heap.size) (by rw [KS.out]; omega) (by intro h; cases h)).trans (K1.out _ _); have k2 := (hap.keep (k := w.heap.size + 1) (by rw [KS.out]; omega) (by intro h; cases h)).trans (K2.out _ _); have hbw := (HB.out _ _).trans (hap.below (B := w.heap.size) (by rw [KS.out]; omega) (fun k hk => by cases hk)); have hsz := hap.grown.size; rw [KS.out] at hsz; have c0 : w1.cell? ⟨w.heap.size, 0, none⟩ = some (.int .i64 ek) := (by rw [cell_heap k1]; rfl); have c1 : w1.cell? ⟨w.heap.size, 1, none⟩ = some (.int .i64 en) := (by rw [cell_heap k1]; rfl); have c2 : w1.cell? ⟨w.heap.size, 2, none⟩ = some (.int .i64 ed) := (by rw [cell_heap k1]; rfl); have c3 : w1.cell? ⟨w.heap.size, 3, none⟩ = some (.string N) := (by rw [cell_heap k1]; rfl); have c4 : w1.cell? ⟨w.heap.size, 4, none⟩ = some (.slice A m c) := (by rw [cell_heap k1]; rfl); have c5 : w1.cell? ⟨w.heap.size, 5, none⟩ = some (.string X) := (by rw [cell_heap k1]; rfl); have c6 : w1.cell? ⟨w.heap.size, 6, none⟩ = some (.int .i64 efr) := (by rw [cell_heap k1]; rfl); have c7 : w1.cell? ⟨w.heap.size, 7, none⟩ = some (.int .i64 ett) := (by rw [cell_heap k1]; rfl); have d0 : w1.cell? ⟨w.heap.size + 1, 0, none⟩ = some (.int .i64 0) := (by rw [cell_heap k2]; rfl); have d1 : w1.cell? ⟨w.heap.size + 1, 1, none⟩ = some (.int .i64 0) := (by rw [cell_heap k2]; rfl); have d2 : w1.cell? ⟨w.heap.size + 1, 2, none⟩ = some (.int .i64 0) := (by rw [cell_heap k2]; rfl); have d3 : w1.cell? ⟨w.heap.size + 1, 3, none⟩ = some (.string ⟨#[]⟩) := (by rw [cell_heap k2]; rfl); have d4 : w1.cell? ⟨w.heap.size + 1, 4, none⟩ = some (.slice none 0 0) := (by rw [cell_heap k2]; rfl); have d5 : w1.cell? ⟨w.heap.size + 1, 5, none⟩ = some (.string ⟨#[]⟩) := (by rw [cell_heap k2]; rfl); have d6 : w1.cell? ⟨w.heap.size + 1, 6, none⟩ = some (.int .i64 0) := (by rw [cell_heap k2]; rfl); have d7 : w1.cell? ⟨w.heap.size + 1, 7, none⟩ = some (.int .i64 0) := (by rw [cell_heap k2]; rfl); have f1 : ∀ j, w1.frozen? ⟨w.heap.size, j, none⟩ = false := fun j => frozen_heap k1; have f2 : ∀ j, w1.frozen? ⟨w.heap.size + 1, j, none⟩ = false := fun j => frozen_heap k2; clear hown hown' hap k1 k2))
  (try simp only [Exit.inBlock, Exit.then])
  refine bodyPost_ret (v := .agg #[.int .i64 ek, .int .i64 en, .int .i64 ed, .string N, .slice A' m c', .string X, .int .i64 efr, .int .i64 ett]) ?_ rfl ⟨A', c', rfl, ?_, ?_⟩
  · rw [results_cell1 rfl]
    go_simp
  · refine own_baseF (own_block HOWN.out fun j hj => ?_) (Nat.le_add_right _ 2)
    have hb := (HOWN.out.lt j hj).1
    iterate 9 rw [Below.heap_setCell _ _ _ _ (by simp only; omega)]
  · iterate 9 refine Below.setCell ?_ (by simp only; omega) _
    exact hbw
end Go.Proofs.YtopfbngdbhofkaaGreatDoor

/-
  Copies of events whose attributes are owned: tree.copied, the law's copied, Events.
-/
namespace Go.Proofs.YtopfbngdbhofkaaGreatDoor
open Go.RowKit

/-- the cells of events whose attributes are owned, from block B on -/
def EvRowF (w : World) (B k : Nat) (evs : List Ev) (cs : List Value) : Prop :=
  ∀ i, (h : i < evs.length) → i < k → ∃ A m c, w.ownsRow B 63 2 (.slice A m c) m (atC evs[i].ats) ∧ ∀ j, j < 8 → cs[i * 8 + j]? = (evL evs[i] A m c)[j]?
theorem EvRowF.step {w w' : World} {B k : Nat} {evs : List Ev} {cs : List Value} (h : EvRowF w B k evs cs) (hlen : cs.length = evs.length * 8) (hk : k < evs.length)
    (hb : ∀ b, B ≤ b → b < w.heap.size → w'.heap[b]? = w.heap[b]?) (A : Option Addr) (m c : Nat) (hA : w'.ownsRow B 63 2 (.slice A m c) m (atC evs[k].ats)) :
    EvRowF w' B (k + 1) evs (setL cs (k * 8) (evL evs[k] A m c)) := by
  have hel : ∀ (e : Ev) (A : Option Addr) (m c : Nat), (evL e A m c).length = 8 := fun _ _ _ _ => rfl
  intro i hi hik
  by_cases h0 : i = k
  · subst h0
    exact ⟨A, m, c, hA, fun j hj => setL_at _ _ _ _ (by rw [hel]; omega) (by rw [hel]; exact hj)⟩
  · obtain ⟨A', m', c', h2, h4⟩ := h i hi (by omega)
    refine ⟨A', m', c', own_block h2 fun b hb' => hb b (h2.lt b hb').1 (h2.lt b hb').2, fun j hj => ?_⟩
    rw [setL_low _ _ _ _ (by omega), h4 j hj]
theorem EvRowF.row {w : World} {B k : Nat} {evs : List Ev} {cs : List Value} (h : EvRowF w B k evs cs) : EvRow w B k evs cs := fun i hi hk => by
  obtain ⟨A, m, c, h1, h2⟩ := h i hi hk
  obtain ⟨A', c', e, h3, h4, h5⟩ := own_attrs h1
  cases e
  exact ⟨A, m, c, h3, h4, h5, h2⟩
set_option maxRecDepth 1000000 in
set_option maxHeartbeats 4000000 in
theorem copiedF_any (a : Option Addr) (n c : Nat) (evs : List Ev) (w : World) (hE : EvsAt w a n evs) (hn : n ≤ 1048576) (hl : ∀ e ∈ evs, e.ats.length ≤ 1048576) :
    Calls Tryz.prog 28 #[.slice a n c] w fun e w' => ∃ cs, e = .returned (.slice (some ⟨w.heap.size, 0, none⟩) n n) ∧ w'.ownsRow w.heap.size 50 8 (.slice (some ⟨w.heap.size, 0, none⟩) n n) n cs ∧ EvRowF w' (w.heap.size + 1) n evs cs ∧ Below w.heap.size w w' := by
  obtain ⟨i0, hi, hz0, hz1, hz2⟩ := info_parts infoEv
  have HE := Lib.hid hE
  have HN : Hid (n = evs.length) := Lib.hid hE.1
  have HL := Lib.hid hl
  clear hE hl
  go_enter Tryz.func28, Tryz.ntmps28
  go_wp2_with (at_make; go_must ((refine wpList_make_full _ (by rfl) _ _ 22 (by rfl) w.heap.size 50 i0 _ 8 Tryz.underlying22 hi hz0 hz1 .i64 .i64 (n : Int) (n : Int) n (by rfl) (by rfl) rfl rfl (by rw [hz2]; omega) (by unfold maxLen; omega) (Nat.le_refl _) (fun w1 hown hgr => ?_))))
  have hb1 : Below w.heap.size w w1 := (Below.refl _ w).grown hgr (Nat.le_refl _) (fun k hk => by cases hk)
  generalize (madeCells _ (n * 8)).toList = cs0 at hown
  go_loopw [11] (fun iv wr => ∃ (k : Nat) (cs : List Value), iv = .int .i64 k ∧ k ≤ n ∧ Below w.heap.size w wr ∧ wr.ownsRow w.heap.size 50 8 (.slice (some ⟨w.heap.size, 0, none⟩) n n) n cs ∧ EvRowF wr (w.heap.size + 1) k evs cs) (fun iv _ => n - (intOf iv).toNat)
  case atStart => exact ⟨0, cs0, rfl, Nat.zero_le _, hb1, hown, fun i hi h => by omega⟩
  case round =>
    obtain ⟨k, cs, rfl, hk, hbr, hor, hrow⟩ := hrel
    by_cases hkn : k < n
    · have hkl : k < evs.length := by rw [← HN.out]; exact hkn
      obtain ⟨b, o, A, m, c', rfl, hb, hmc, hA, hcells⟩ := HE.out.at8 k hkl
      obtain ⟨e0, e1, e2, e3, e4, e5, e6, e7⟩ := hcells wr hbr
      have hla := HL.out _ (List.getElem_mem hkl)
      have hm : m ≤ 1048576 := by rw [hA.1]; exact hla
      clear hla
      have HONE : Hid (∀ W, Below w.heap.size w W → Calls Tryz.prog 37 #[.agg #[.int .i64 evs[k].kind, .int .i64 evs[k].num, .int .i64 evs[k].dep, .string (strL evs[k].name), .slice A m c', .string (strL evs[k].text), .int .i64 evs[k].fr, .int .i64 evs[k].tt]] W fun e w' => ∃ A' c2, e = .returned (.agg (evC evs[k].kind evs[k].num evs[k].dep evs[k].name A' m c2 evs[k].text evs[k].fr evs[k].tt)) ∧ w'.ownsRow W.heap.size 63 2 (.slice A' m c2) m (atC evs[k].ats) ∧ Below W.heap.size W w') := Lib.hid fun W hW => oneF_any _ _ _ _ _ _ _ A m c' _ W (hA.below hW) hm
      have HOR := Lib.hid hor
      have HROW := Lib.hid hrow
      have HBR := Lib.hid hbr
      have HS1 : Hid (w.heap.size < wr.heap.size) := Lib.hid (hor.lt _ rfl).2
      have HB2 : Hid (∀ o, Below w.heap.size w (wr.alloc o)) := Lib.hid fun o => hbr.alloc hbr.size o
      clear hcells hA hor hrow hbr
      go_wp2_with fail
      (with_reducible refine (HONE.out _ (HB2.out _)).mono ?_)
      rintro e w3 ⟨A', c2, rfl, hA', hb3⟩
      unfold evC
      have hkeep : ∀ j, j < wr.heap.size → w3.heap[j]? = wr.heap[j]? := fun j hj => (hb3.block j (by simp; omega)).trans (Below.heap_alloc _ _ _ hj)
      have hsz : wr.heap.size ≤ w3.heap.size := Nat.le_trans (by simp) hb3.size
      have hb4 : Below w.heap.size w w3 := (HB2.out _).trans (hb3.mono (HB2.out _).size)
      have hA2 : w3.ownsRow (w.heap.size + 1) 63 2 (.slice A' m c2) m (atC evs[k].ats) := own_baseF hA' (by have := HS1.out; simp; omega)
      have hor3 := own_block HOR.out (fun j hj => by cases hj; exact hkeep _ HS1.out)
      have HX := Lib.hid (⟨hkeep, hsz, hb4, hA2, hor3⟩ : _ ∧ _ ∧ _ ∧ _ ∧ _)
      obtain ⟨x0, y0⟩ := own_cell hor3 (k * 8) (by omega)
      obtain ⟨x1, y1⟩ := own_cell hor3 (k * 8 + 1) (by omega)
      obtain ⟨x2, y2⟩ := own_cell hor3 (k * 8 + 2) (by omega)
      obtain ⟨x3, y3⟩ := own_cell hor3 (k * 8 + 3) (by omega)
      obtain ⟨x4, y4⟩ := own_cell hor3 (k * 8 + 4) (by omega)
      obtain ⟨x5, y5⟩ := own_cell hor3 (k * 8 + 5) (by omega)
      obtain ⟨x6, y6⟩ := own_cell hor3 (k * 8 + 6) (by omega)
      obtain ⟨x7, y7⟩ := own_cell hor3 (k * 8 + 7) (by omega)
      have z := fun j => hor3.frozenAt j
      clear hkeep hsz hb4 hA2 hb3 hA' hor3
      go_wp2_with fail
      obtain ⟨hkeep, hsz, hb4, hA2, hor3⟩ := HX.out
      have hlen : cs.length = evs.length * 8 := by have := HOR.out.1; have := HN.out; omega
      have hstep := HROW.out.step (w' := setC w3 w.heap.size (k * 8) (evL evs[k] A' m c2)) hlen hkl (fun j h1 h2 => by rw [setC_far _ _ _ _ _ (by omega)]; exact hkeep j h2) A' m c2 (own_block hA2 (fun j hj => setC_far _ _ _ _ _ (by have := (hA2.lt j hj).1; omega)))
      have hown' := setC_own (evL evs[k] A' m c2) w3 cs (k * 8) hor3
      have hbelow' := setC_below (evL evs[k] A' m c2) w3 w.heap.size (k * 8) (Nat.le_refl _) hb4
      go_roundw
      case rel => exact ⟨k + 1, setL cs (k * 8) (evL evs[k] A' m c2), by go_num, by omega, hbelow', hown', hstep⟩
      case measure => simp [intOf]; omega
    · have hk2 : k = n := by omega
      subst hk2
      go_wp2_with fail
      go_ret
      exact ⟨cs, rfl, hor, hrow, hbr⟩
set_option maxRecDepth 1000000 in
set_option maxHeartbeats 4000000 in
theorem lawCopiedF_any (a : Option Addr) (n c : Nat) (evs : List Ev) (w : World) (hE : EvsAt w a n evs) (hn : n ≤ 1048576) (hl : ∀ e ∈ evs, e.ats.length ≤ 1048576) :
    Calls Tryz.prog 9 #[.slice a n c] w fun e w' => ∃ cs, e = .returned (.slice (some ⟨w.heap.size, 0, none⟩) n n) ∧ w'.ownsRow w.heap.size 50 8 (.slice (some ⟨w.heap.size, 0, none⟩) n n) n cs ∧ EvRowF w' (w.heap.size + 1) n evs cs ∧ Below w.heap.size w w' := by
  obtain ⟨i0, hi, hz0, hz1, hz2⟩ := info_parts infoEv
  obtain ⟨j0, hj, hjz0, hjz1, hjz2⟩ := info_parts infoAttr
  have HE := Lib.hid hE
  have HN : Hid (n = evs.length) := Lib.hid hE.1
  have HL := Lib.hid hl
  clear hE hl
  go_enter Tryz.func9, Tryz.ntmps9
  go_wp2_with (at_make; go_must ((refine wpList_make_full _ (by rfl) _ _ 22 (by rfl) w.heap.size 50 i0 _ 8 Tryz.underlying22 hi hz0 hz1 .i64 .i64 (n : Int) (n : Int) n (by rfl) (by rfl) rfl rfl (by rw [hz2]; omega) (by unfold maxLen; omega) (Nat.le_refl _) (fun w1 hown hgr => ?_))))
  have hb1 : Below w.heap.size w w1 := (Below.refl _ w).grown hgr (Nat.le_refl _) (fun k hk => by cases hk)
  generalize (madeCells _ (n * 8)).toList = cs0 at hown
  go_loopw [4] (fun iv wr => ∃ (k : Nat) (cs : List Value), iv = .int .i64 k ∧ k ≤ n ∧ Below w.heap.size w wr ∧ wr.ownsRow w.heap.size 50 8 (.slice (some ⟨w.heap.size, 0, none⟩) n n) n cs ∧ EvRowF wr (w.heap.size + 1) k evs cs) (fun iv _ => n - (intOf iv).toNat)
  case atStart => exact ⟨0, cs0, rfl, Nat.zero_le _, hb1, hown, fun i hi h => by omega⟩
  case round =>
    obtain ⟨k, cs, rfl, hk, hbr, hor, hrow⟩ := hrel
    by_cases hkn : k < n
    · have hkl : k < evs.length := by rw [← HN.out]; exact hkn
      obtain ⟨b, o, A, m, c', rfl, hb, hmc, hA, hcells⟩ := HE.out.at8 k hkl
      obtain ⟨e0, e1, e2, e3, e4, e5, e6, e7⟩ := hcells wr hbr
      have hla := HL.out _ (List.getElem_mem hkl)
      have hm : m ≤ 1048576 := by rw [hA.1]; exact hla
      have hml : m = evs[k].ats.length := hA.1
      clear hla
      have HS1 : Hid (w.heap.size < wr.heap.size) := Lib.hid (hor.lt _ rfl).2
      have hbwr := Nat.lt_of_lt_of_le hb hbr.size
      obtain ⟨x0, y0⟩ := own_cell hor (k * 8) (by omega)
      obtain ⟨x1, y1⟩ := own_cell hor (k * 8 + 1) (by omega)
      obtain ⟨x2, y2⟩ := own_cell hor (k * 8 + 2) (by omega)
      obtain ⟨x3, y3⟩ := own_cell hor (k * 8 + 3) (by omega)
      obtain ⟨x4, y4⟩ := own_cell hor (k * 8 + 4) (by omega)
      obtain ⟨x5, y5⟩ := own_cell hor (k * 8 + 5) (by omega)
      obtain ⟨x6, y6⟩ := own_cell hor (k * 8 + 6) (by omega)
      obtain ⟨x7, y7⟩ := own_cell hor (k * 8 + 7) (by omega)
      have z := fun j => hor.frozenAt j
      have hgb : w.heap.size ≠ b := by omega
      have hlen : cs.length = evs.length * 8 := by have := hor.1; have := HN.out; omega
      have i1 : (0 : Int) ≤ (k : Int) := by omega
      have i2 : (k : Int) < (n : Int) := by omega
      have HOR := Lib.hid hor
      have HROW := Lib.hid hrow
      have HBR := Lib.hid hbr
      have HA := Lib.hid hA
      have HLN := Lib.hid (⟨hlen, hml⟩ : _ ∧ _)
      obtain ⟨W5, hW5⟩ : ∃ W5, W5 = setC wr w.heap.size (k * 8) (evL evs[k] A m c') := ⟨_, rfl⟩
      have HW5 := Lib.hid hW5
      have h5size : W5.heap.size = wr.heap.size := by rw [hW5, setC_size]
      have h5below : Below w.heap.size w W5 := by rw [hW5]; exact setC_below _ _ _ _ (Nat.le_refl _) hbr
      have h5own : W5.ownsRow w.heap.size 50 8 (.slice (some ⟨w.heap.size, 0, none⟩) n n) n (setL cs (k * 8) (evL evs[k] A m c')) := by rw [hW5]; exact setC_own _ _ _ _ hor
      have h5far : ∀ j, j ≠ w.heap.size → W5.heap[j]? = wr.heap[j]? := fun j hj => by rw [hW5]; exact setC_far _ _ _ _ _ hj
      have hwA : Below w.heap.size w (W5.alloc (.cells #[] 63)) := h5below.alloc (by have := HS1.out; omega) _
      have h0own : (W5.alloc (.cells #[] 63)).ownsRow wr.heap.size 63 2 (.slice (some ⟨wr.heap.size, 0, none⟩) 0 0) 0 [] := by
        have := World.ownsRow_lit (base := wr.heap.size) (e := 63) (size := 2) W5 #[] 0 (by omega) (by unfold maxLen; omega) rfl
        rw [h5size] at this
        simpa using this
      have e4' : W5.cell? ⟨b, o + k * 8 + 4, none⟩ = some (.slice A m c') := by
        have := h5far b (fun e => hgb e.symm)
        simp only [World.cell?, this] at e4 ⊢
        exact e4
      have H5 := Lib.hid (⟨h5size, h5below, h5own, h5far, hwA, h0own⟩ : _ ∧ _ ∧ _ ∧ _ ∧ _ ∧ _)
      clear hml hcells hA hor hrow hbr h5size h5below h5own h5far hwA h0own hW5 hlen
      go_upto_region 6 with fail
      have hW : W5 = (((((((wr.setCell ⟨w.heap.size, k * 8, none⟩ (.int .i64 evs[k].kind)).setCell ⟨w.heap.size, k * 8 + 1, none⟩ (.int .i64 evs[k].num)).setCell ⟨w.heap.size, k * 8 + 2, none⟩ (.int .i64 evs[k].dep)).setCell ⟨w.heap.size, k * 8 + 3, none⟩ (.string (strL evs[k].name))).setCell ⟨w.heap.size, k * 8 + 4, none⟩ (.slice A m c')).setCell ⟨w.heap.size, k * 8 + 5, none⟩ (.string (strL evs[k].text))).setCell ⟨w.heap.size, k * 8 + 6, none⟩ (.int .i64 evs[k].fr)).setCell ⟨w.heap.size, k * 8 + 7, none⟩ (.int .i64 evs[k].tt) := HW5.out
      rw [← hW]
      clear hW y0 y1 y2 y3 y4 y5 y6 y7 z e0 e1 e2 e3 e4 e5 e6 e7
      have e4a : ∀ o', (W5.alloc o').cell? ⟨b, o + k * 8 + 4, none⟩ = some (.slice A m c') := fun o' => by
        have hb5 : b < W5.heap.size := by rw [H5.out.1]; exact hbwr
        have := Below.heap_alloc W5 o' b hb5
        simp only [World.cell?, this] at e4' ⊢
        exact e4'
      clear e4'
      go_wp2_with (at_builtin; go_must ((refine wpList_app_row (W5.alloc (.cells #[] 63)) (by rfl) _ _ 48 (by rfl) wr.heap.size 63 j0 (.agg #[.string ⟨#[]⟩, .string ⟨#[]⟩]) 2 32 Tryz.underlying48 hj hjz0 hjz1 hjz2 (by rfl) (by decide) (.slice (some ⟨W5.heap.size, 0, none⟩) 0 0) 0 [] (by rfl) (by rw [H5.out.1]; exact H5.out.2.2.2.2.2) A m c' (atC evs[k].ats) (by rfl) (by rw [atC_length, HA.out.1]) (fun ad ha j u hj => (HA.out.below H5.out.2.2.2.2.1).cells ad ha j u hj) (HA.out.none) (atC_one evs[k].ats) (by omega) (by decide) (by have := H5.out.1; simp; omega) (fun v' w1 hown hap => ?_)); (have hownA : w1.ownsRow wr.heap.size 63 2 v' m (atC evs[k].ats) := (by simpa using hown)); (obtain ⟨A', c2, rfl, _, _, _⟩ := own_attrs hownA); have hsz1 := hap.grown.size; have hkp : ∀ j, j < W5.heap.size → w1.heap[j]? = W5.heap[j]? := (fun j hj => (hap.keep (by simp; omega) (fun e => by have e' : W5.heap.size = j := Option.some.inj e; omega)).trans (Below.heap_alloc _ _ _ hj)); have hor1 := own_block H5.out.2.2.1 (fun j hj => by cases hj; exact hkp _ (by rw [H5.out.1]; exact HS1.out)); obtain ⟨x4, y4⟩ := own_cell hor1 (k * 8 + 4) (by omega); have z := fun j => hor1.frozenAt j))
      have hlen := HLN.out.1
      have hs5 := H5.out.1
      have hszW : W5.heap.size ≤ w1.heap.size := Nat.le_trans (by simp) hsz1
      have hA2 : w1.ownsRow (w.heap.size + 1) 63 2 (.slice A' m c2) m (atC evs[k].ats) := own_baseF hownA (by have := HS1.out; omega)
      have hsg : (w1.setCell ⟨w.heap.size, k * 8 + 4, none⟩ (.slice A' m c2)).heap.size = w1.heap.size := by simp [World.setCell]
      have hset : (setL cs (k * 8) (evL evs[k] A m c')).set (k * 8 + 4) (.slice A' m c2) = setL cs (k * 8) (evL evs[k] A' m c2) := by
        rw [setL_set, if_pos (by show 4 < 8; decide), evL_set]
      have hstep := HROW.out.step (w' := w1.setCell ⟨w.heap.size, k * 8 + 4, none⟩ (.slice A' m c2)) hlen hkl (fun j h1 h2 => by rw [Below.heap_setCell _ _ _ _ (by simp only; omega), hkp j (by omega), H5.out.2.2.2.1 j (by omega)]) A' m c2 (own_block hA2 (fun j hj => Below.heap_setCell _ _ _ _ (by have := (hA2.lt j hj).1; simp only; omega)))
      have hown' := (hor1.stored (k * 8 + 4) (.slice A' m c2)).1
      rw [hset] at hown'
      have hbelow' : Below w.heap.size w (w1.setCell ⟨w.heap.size, k * 8 + 4, none⟩ (.slice A' m c2)) := (H5.out.2.2.2.2.1.trans (hap.below (B := w.heap.size) (by simp; have := HS1.out; omega) (fun j hj => by have e' : W5.heap.size = j := Option.some.inj hj; have := HS1.out; omega))).setCell (p := ⟨w.heap.size, k * 8 + 4, none⟩) (Nat.le_refl _) _
      go_roundw
      case rel => exact ⟨k + 1, setL cs (k * 8) (evL evs[k] A' m c2), by go_num, by omega, hbelow', hown', hstep⟩
      case measure => simp [intOf]; omega
    · have hk2 : k = n := by omega
      subst hk2
      go_wp2_with fail
      go_ret
      exact ⟨cs, rfl, hor, hrow, hbr⟩
theorem eventsF_at (tb : Nat) (evs : List Ev) (w : World) {B : Nat} (h : TreeAt w B tb evs) (hl : ∀ e ∈ evs, e.ats.length ≤ 1048576) (hn : evs.length ≤ 1048576) :
    Calls Tryz.prog 18 #[.pointer (some ⟨tb, 0, none⟩)] w fun e w' => ∃ cs, e = .returned (.slice (some ⟨w.heap.size, 0, none⟩) evs.length evs.length) ∧ w'.ownsRow w.heap.size 50 8 (.slice (some ⟨w.heap.size, 0, none⟩) evs.length evs.length) evs.length cs ∧ EvRowF w' (w.heap.size + 1) evs.length evs cs ∧ Below w.heap.size w w' := by
  obtain ⟨ge, n, u, htb, hE⟩ := treeEvs h
  have hne : n = evs.length := hE.1
  subst hne
  have HCO := Lib.hid (copiedF_any _ _ evs.length evs w hE hn hl)
  have c0 : w.cell? ⟨tb, 0, none⟩ = some (.slice (some ⟨ge, 0, none⟩) evs.length evs.length) := by rw [cell_heap htb]; rfl
  clear h hl hE htb
  go_enter Tryz.func18, Tryz.ntmps18
  go_wp2_with fail
  (with_reducible refine HCO.out.mono ?_)
  rintro e w2 ⟨cs, rfl, h1, h2, h3⟩
  go_wp2_with fail
  go_ret
  exact ⟨cs, rfl, h1, h2, h3⟩
set_option maxRecDepth 100000 in
set_option maxHeartbeats 4000000 in
theorem nodeF_at (tb i : Nat) (x : Nd) (e : Ev) (evs : List Ev) (w : World) {B : Nat} (h : TreeAt w B tb evs) (hw : wholeB evs = true) (hx : (nodesB evs)[i]? = some x) (he : evs[x.pos]? = some e) (hal : e.ats.length ≤ 1048576) :
    Calls Tryz.prog 19 #[.pointer (some ⟨tb, 0, none⟩), .int .i64 (i : Nat)] w fun r w' => ∃ A m c, r = .returned (.tuple #[.agg (evC e.kind e.num e.dep e.name A m c e.text e.fr e.tt), .int .i64 0]) ∧ w'.ownsRow w.heap.size 63 2 (.slice A m c) m (atC e.ats) ∧ Below w.heap.size w w' := by
  have hil := get_lt hx
  have htl := treeLast h hw
  have HREF : Hid (∀ W, Below w.heap.size w W → Calls Tryz.prog 32 #[.pointer (some ⟨tb, 0, none⟩), .int .i64 (i : Nat), .int .i64 0] W fun e w' => e = .returned (.int .i64 0) ∧ w' = W) := Lib.hid fun W hW => refuses_in (htl.keep (B := W) fun k hk => hW.block k hk.2) (i : Nat) 0 (by omega) (by omega)
  obtain ⟨q, b, cn, e', A, m, c, htb, hb, he', hmc, hA, e0, e1, e2, e3, e4, e5, e6, e7, e8⟩ := treeNode h i x hx
  have : e' = e := by rw [he] at he'; exact (Option.some.inj he').symm
  subst this
  have c1 : w.cell? ⟨tb, 1, none⟩ = some (.slice (some ⟨b, 0, none⟩) (nodesB evs).length cn) := by rw [cell_heap htb]; rfl
  have hm : m ≤ 1048576 := by rw [hA.1]; exact hal
  have HONE : Hid (∀ W, Below w.heap.size w W → Calls Tryz.prog 37 #[.agg #[.int .i64 e'.kind, .int .i64 e'.num, .int .i64 e'.dep, .string (strL e'.name), .slice A m c, .string (strL e'.text), .int .i64 e'.fr, .int .i64 e'.tt]] W fun e w' => ∃ A' c2, e = .returned (.agg (evC e'.kind e'.num e'.dep e'.name A' m c2 e'.text e'.fr e'.tt)) ∧ w'.ownsRow W.heap.size 63 2 (.slice A' m c2) m (atC e'.ats) ∧ Below W.heap.size W w') := Lib.hid fun W hW => oneF_any _ _ _ _ _ _ _ A m c _ W (hA.below hW) hm
  have HB : Hid (∀ o, Below w.heap.size w (w.alloc o) ∧ (w.alloc o).heap[w.heap.size]? = some o ∧ (w.alloc o).heap.size = w.heap.size + 1) := Lib.hid fun o => ⟨(Below.refl _ _).alloc (Nat.le_refl _) _, heap_alloc_new w o, by simp⟩
  have htbw := heap_lt htb
  have k1 := fun o => ((HB.out o).1.cell (p := ⟨tb, 1, none⟩) htbw).trans c1
  have k := fun o j => (HB.out o).1.cell (p := ⟨b, j, none⟩) hb
  have g0 := fun o => (k o _).trans e0
  have g1 := fun o => (k o _).trans e1
  have g2 := fun o => (k o _).trans e2
  have g3 := fun o => (k o _).trans e3
  have g4 := fun o => (k o _).trans e4
  have g5 := fun o => (k o _).trans e5
  have g6 := fun o => (k o _).trans e6
  have g7 := fun o => (k o _).trans e7
  have i1 : (0 : Int) ≤ (i : Int) := by omega
  have i2 : (i : Int) < ((nodesB evs).length : Nat) := by omega
  generalize (nodesB evs).length = L at *
  clear h hw hx htb hA he he' hil e0 e1 e2 e3 e4 e5 e6 e7 e8 htl k htbw c1 hal hm
  go_enter Tryz.func19, Tryz.ntmps19
  go_wp2_with (first | (go_at_call 32; (with_reducible refine (HREF.out _ (HB.out _).1).mono ?_); rintro e w' ⟨rfl, hw'⟩; subst w'))
  (with_reducible refine (HONE.out _ (HB.out _).1).mono ?_)
  rintro r w3 ⟨A', c2, rfl, hA', hb3⟩
  unfold evC
  have hk := (hb3.block w.heap.size (by rw [(HB.out _).2.2]; omega)).trans (HB.out _).2.1
  have hbw := (HB.out (.cells #[.int .i64 0, .int .i64 0, .int .i64 0, .string ⟨#[]⟩, .slice none 0 0, .string ⟨#[]⟩, .int .i64 0, .int .i64 0] 50)).1.trans (hb3.mono (HB.out _).1.size)
  have z0 : w3.cell? ⟨w.heap.size, 0, none⟩ = some (.int .i64 0) := by rw [cell_heap hk]; rfl
  have z1 : w3.cell? ⟨w.heap.size, 1, none⟩ = some (.int .i64 0) := by rw [cell_heap hk]; rfl
  have z2 : w3.cell? ⟨w.heap.size, 2, none⟩ = some (.int .i64 0) := by rw [cell_heap hk]; rfl
  have z3 : w3.cell? ⟨w.heap.size, 3, none⟩ = some (.string ⟨#[]⟩) := by rw [cell_heap hk]; rfl
  have z4 : w3.cell? ⟨w.heap.size, 4, none⟩ = some (.slice none 0 0) := by rw [cell_heap hk]; rfl
  have z5 : w3.cell? ⟨w.heap.size, 5, none⟩ = some (.string ⟨#[]⟩) := by rw [cell_heap hk]; rfl
  have z6 : w3.cell? ⟨w.heap.size, 6, none⟩ = some (.int .i64 0) := by rw [cell_heap hk]; rfl
  have z7 : w3.cell? ⟨w.heap.size, 7, none⟩ = some (.int .i64 0) := by rw [cell_heap hk]; rfl
  have fz : ∀ j, w3.frozen? ⟨w.heap.size, j, none⟩ = false := fun j => frozen_heap hk
  have hA2 : w3.ownsRow (w.heap.size + 1) 63 2 (.slice A' m c2) m (atC e'.ats) := own_baseF hA' (by rw [(HB.out _).2.2]; exact Nat.le_refl _)
  have HX := Lib.hid (⟨hbw, hA2⟩ : _ ∧ _)
  clear hbw hA2 hA' hb3 hk g0 g1 g2 g3 g4 g5 g6 g7 k1
  go_wp2_with fail
  obtain ⟨hbw, hA2⟩ := HX.out
  refine bodyPost_ret (v := .tuple #[.agg #[.int .i64 e'.kind, .int .i64 e'.num, .int .i64 e'.dep, .string (strL e'.name), .slice A' m c2, .string (strL e'.text), .int .i64 e'.fr, .int .i64 e'.tt], .int .i64 0]) ?_ rfl ⟨A', m, c2, rfl, ?_, ?_⟩
  · rw [results_cellTmp rfl]
    go_simp
  · refine own_baseF (own_block hA2 fun j hj => ?_) (Nat.le_add_right _ 1)
    have hb := (hA2.lt j hj).1
    iterate 8 rw [Below.heap_setCell _ _ _ _ (by simp only; omega)]
  · iterate 8 refine Below.setCell ?_ (by simp only; omega) _
    exact hbw
end Go.Proofs.YtopfbngdbhofkaaGreatDoor

/-
  The law's spoil: what it writes over lies within the events' own blocks.
-/
namespace Go.Proofs.YtopfbngdbhofkaaGreatDoor
open Go.RowKit

/-- N cells of a block are there, and may be written -/
structure RoomAt (w : World) (b N : Nat) : Prop where
  cell : ∀ j, j < N → ∃ u, w.cell? ⟨b, j, none⟩ = some u
  free : ∀ j, w.frozen? ⟨b, j, none⟩ = false
theorem RoomAt.set {w : World} {b N : Nat} (h : RoomAt w b N) (a : Addr) (v : Value) : RoomAt (w.setCell a v) b N := by
  refine ⟨fun j hj => ?_, fun j => by rw [World.frozen?_setCell]; exact h.free j⟩
  obtain ⟨u, hu⟩ := h.cell j hj
  by_cases he : a = ⟨b, j, none⟩
  · subst he; exact ⟨v, World.cell?_setCell_same _ _ _ hu⟩
  · exact ⟨u, by rw [World.cell?_setCell_other _ _ _ _ he]; exact hu⟩
theorem RoomAt.keep {w w' : World} {b N : Nat} (h : RoomAt w b N) (hk : w'.heap[b]? = w.heap[b]?) : RoomAt w' b N :=
  ⟨fun j hj => by obtain ⟨u, hu⟩ := h.cell j hj; exact ⟨u, by simp only [World.cell?, hk] at hu ⊢; exact hu⟩, fun j => by have := h.free j; simp only [World.frozen?, hk] at this ⊢; exact this⟩
theorem RoomAt.own {w : World} {base g n cap size : Nat} {e : TypeId} {xs : List Value} (h : w.ownsRow base e size (.slice (some ⟨g, 0, none⟩) n cap) n xs) : RoomAt w g (n * size) :=
  ⟨fun j hj => own_cell h j hj, fun j => h.frozenAt j⟩
/-- a row of events whose blocks lie from lo on, below hi: those from k on are as they were -/
structure SP (w0 : World) (lo hi ge n k : Nat) (W : World) : Prop where
  kp : KpX (fun x => lo ≤ x ∧ x < hi) w0.heap.size w0 W
  room : RoomAt W ge (n * 8)
  ev : ∀ i, k ≤ i → i < n → ∃ (A : Option Addr) (m c : Nat), W.cell? ⟨ge, i * 8 + 4, none⟩ = some (.slice A m c) ∧ m ≤ 1048576 ∧ (A = none → m = 0) ∧ ∀ ad, A = some ad → ∃ g, ad = ⟨g, 0, none⟩ ∧ lo ≤ g ∧ g < hi ∧ g ≠ ge ∧ RoomAt W g (m * 2)
theorem SP.set {w0 W : World} {lo hi ge n k : Nat} (h : SP w0 lo hi ge n k W) (b j : Nat) (v : Value) (h1 : lo ≤ b) (h2 : b < hi) (h3 : b = ge → j < k * 8) : SP w0 lo hi ge n k (W.setCell ⟨b, j, none⟩ v) := by
  refine ⟨h.kp.set ⟨h1, h2⟩ j v, h.room.set _ _, fun i hik hin => ?_⟩
  obtain ⟨A, m, c, g1, g2, g3, g4⟩ := h.ev i hik hin
  refine ⟨A, m, c, ?_, g2, g3, fun ad ha => ?_⟩
  · rw [World.cell?_setCell_other _ _ _ _ (fun e => ?_)]
    · exact g1
    · injection e with e1 e2
      have := h3 e1
      omega
  · obtain ⟨g, k1, k2, k3, k4, k5⟩ := g4 ad ha
    exact ⟨g, k1, k2, k3, k4, k5.set _ _⟩
theorem SP.drop {w0 W : World} {lo hi ge n k : Nat} (h : SP w0 lo hi ge n k W) : SP w0 lo hi ge n (k + 1) W := ⟨h.kp, h.room, fun i h1 h2 => h.ev i (by omega) h2⟩
set_option maxRecDepth 1000000 in
set_option maxHeartbeats 4000000 in
theorem spoil_any (lo hi ge n : Nat) (w : World) (h : SP w lo hi ge n 0 w) (hlo : lo ≤ ge) (hhi : ge < hi) (hn : n ≤ 1048576) :
    Calls Tryz.prog 26 #[.slice (some ⟨ge, 0, none⟩) n n] w fun e w' => (∃ v, e = .returned v) ∧ KpX (fun k => lo ≤ k ∧ k < hi) w.heap.size w w' := by
  have HSP := Lib.hid h
  clear h
  go_enter Tryz.func26, Tryz.ntmps26
  go_wp2_with fail
  go_loopw [2] (fun iv wr => ∃ k : Nat, iv = .int .i64 k ∧ k ≤ n ∧ Hid (SP w lo hi ge n k wr)) (fun iv _ => n - (intOf iv).toNat)
  case atStart => exact ⟨0, rfl, Nat.zero_le _, HSP⟩
  case round =>
    obtain ⟨k, rfl, hk, HR⟩ := hrel
    by_cases hkn : k < n
    · obtain ⟨A, m, c, e4, hm, hA0, hAs⟩ := HR.out.ev k (Nat.le_refl _) hkn
      have HAS := Lib.hid hA0
      have i1 : (0 : Int) ≤ (k : Int) := by omega
      have i2 : (k : Int) < (n : Int) := by omega
      have ewk : IntKind.i64.wrap ((k : Int) + 1) = (k : Int) + 1 := IntWalk.i64_in _ (by omega)
      have HGA : Hid (∀ ad, A = some ad → ∃ g, ad = ⟨g, 0, none⟩ ∧ lo ≤ g ∧ g < hi ∧ g ≠ ge) := Lib.hid fun ad ha => by obtain ⟨g, h1, h2, h3, h4, _⟩ := hAs ad ha; exact ⟨g, h1, h2, h3, h4⟩
      have HRM : Hid (∀ ad, A = some ad → RoomAt wr ad.block (m * 2)) := Lib.hid fun ad ha => by obtain ⟨g, h1, _, _, _, h5⟩ := hAs ad ha; rw [h1]; exact h5
      clear hA0 hAs
      go_wp2_with fail
      go_loopw [3] (fun jv wq => ∃ j : Nat, jv = .int .i64 j ∧ j ≤ m ∧ Hid (SP w lo hi ge n k wq ∧ wq.cell? ⟨ge, k * 8 + 4, none⟩ = some (.slice A m c) ∧ ∀ ad, A = some ad → RoomAt wq ad.block (m * 2))) (fun jv _ => m - (intOf jv).toNat)
      case atStart => exact ⟨0, rfl, Nat.zero_le _, Lib.hid ⟨HR.out, e4, HRM.out⟩⟩
      case round =>
        obtain ⟨j, rfl, hj, HQ⟩ := hrel
        have f4 := HQ.out.2.1
        by_cases hjm : j < m
        · obtain ⟨ad, rfl⟩ : ∃ ad, A = some ad := by
            cases A with
            | none => have := HAS.out rfl; omega
            | some ad => exact ⟨ad, rfl⟩
          obtain ⟨g, rfl, hg1, hg2, hg3⟩ := HGA.out _ rfl
          have hroom := HQ.out.2.2 _ rfl
          obtain ⟨x0, y0⟩ := hroom.cell (j * 2) (by omega)
          obtain ⟨x1, y1⟩ := hroom.cell (j * 2 + 1) (by omega)
          have z := hroom.free
          have j1 : (0 : Int) ≤ (j : Int) := by omega
          have j2 : (j : Int) < (m : Int) := by omega
          have ewj : IntKind.i64.wrap ((j : Int) + 1) = (j : Int) + 1 := IntWalk.i64_in _ (by omega)
          simp only at y0 y1 z
          clear hroom
          go_wp2_with fail
          go_roundw
          case rel =>
            refine ⟨j + 1, by go_num, by omega, Lib.hid ⟨(HQ.out.1.set _ _ _ hg1 hg2 (fun h => absurd h hg3)).set _ _ _ hg1 hg2 (fun h => absurd h hg3), ?_, fun ad ha => ((HQ.out.2.2 ad ha).set _ _).set _ _⟩⟩
            rw [World.cell?_setCell_far _ _ _ _ hg3, World.cell?_setCell_far _ _ _ _ hg3]
            exact HQ.out.2.1
          case measure => simp [intOf]; omega
        · have hjm2 : j = m := by omega
          subst hjm2
          have hroom := HQ.out.1.room
          obtain ⟨x0, y0⟩ := hroom.cell (k * 8) (by omega)
          obtain ⟨x1, y1⟩ := hroom.cell (k * 8 + 1) (by omega)
          obtain ⟨x2, y2⟩ := hroom.cell (k * 8 + 2) (by omega)
          obtain ⟨x3, y3⟩ := hroom.cell (k * 8 + 3) (by omega)
          obtain ⟨x5, y5⟩ := hroom.cell (k * 8 + 5) (by omega)
          obtain ⟨x6, y6⟩ := hroom.cell (k * 8 + 6) (by omega)
          obtain ⟨x7, y7⟩ := hroom.cell (k * 8 + 7) (by omega)
          have z := hroom.free
          clear hroom
          go_wp2_with fail
          have hs := HQ.out.1.drop
          go_roundw
          case rel =>
            refine ⟨k + 1, by go_num, by omega, Lib.hid ?_⟩
            iterate 8 refine SP.set ?_ _ _ _ hlo hhi (fun _ => by omega)
            exact hs
          case measure => simp [intOf]; omega
    · have hk2 : k = n := by omega
      subst hk2
      go_wp2_with fail
      go_end0
      exact ⟨⟨_, rfl⟩, HR.out.kp⟩
end Go.Proofs.YtopfbngdbhofkaaGreatDoor
