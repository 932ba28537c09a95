/-
  The cells of attributes.
-/
import Derived.Test.YtekoflcioooncaaDoorMxF
namespace Go.Proofs.YtekoflcioooncaaDoor
open Go.RowKit

theorem infoAttr : (Tryd.prog.info? 122).map (fun i => (i.zero, i.size, i.bytes)) = some (some (.agg #[.string ⟨#[]⟩, .string ⟨#[]⟩]), 2, 32) := by kernel_rfl
def atC (ats : List (List UInt8 × List UInt8)) : List Value := ats.flatMap fun p => [.string (strL p.1), .string (strL p.2)]
theorem atC_length (ats : List (List UInt8 × List UInt8)) : (atC ats).length = ats.length * 2 := by
  induction ats with
  | nil => rfl
  | cons p r ih => unfold atC at *; simp only [List.flatMap_cons, List.length_append, List.length_cons, List.length_nil, ih]; omega
theorem atC_get : ∀ (ats : List (List UInt8 × List UInt8)) (i : Nat) (h : i < ats.length), (atC ats)[i * 2]? = some (.string (strL ats[i].1)) ∧ (atC ats)[i * 2 + 1]? = some (.string (strL ats[i].2))
  | p :: r, 0, _ => ⟨rfl, rfl⟩
  | p :: r, i + 1, h => by
    have := atC_get r i (by simpa using h)
    have e : atC (p :: r) = .string (strL p.1) :: .string (strL p.2) :: atC r := rfl
    rw [e, show (i + 1) * 2 = i * 2 + 1 + 1 by omega]
    simpa using this
theorem atC_one (ats : List (List UInt8 × List UInt8)) : ∀ u ∈ atC ats, u.oneCell' = true := by
  intro u hu
  obtain ⟨p, _, h⟩ := List.mem_flatMap.1 hu
  simp only [List.mem_cons, List.not_mem_nil, or_false] at h
  rcases h with rfl | rfl <;> rfl
theorem add_cell (b o j : Nat) : (⟨b, o, none⟩ : Addr).add j = ⟨b, o + j, none⟩ := by
  unfold Addr.add
  split
  · rename_i h; subst h; rfl
  · rfl
theorem AttrsAt.cells {w : World} {A : Option Addr} {m : Nat} {ats : List (List UInt8 × List UInt8)} (h : AttrsAt w A m ats) : ∀ ad, A = some ad → ∀ j u, (atC ats)[j]? = some u → w.cell? (ad.add j) = some u := by
  intro ad hA j u hj
  have hlt := (List.getElem?_eq_some_iff.1 hj).1
  rw [atC_length] at hlt
  obtain ⟨i, hij⟩ : ∃ i, j = i * 2 ∨ j = i * 2 + 1 := ⟨j / 2, by omega⟩
  have hi : i < ats.length := by omega
  obtain ⟨b, o, e, _, h1, h2⟩ := h.2 _ hi
  rw [hA] at e
  injection e with e
  subst e
  obtain ⟨g1, g2⟩ := atC_get ats _ hi
  rw [add_cell]
  rcases hij with rfl | rfl
  · rw [h1, ← g1, hj]
  · rw [← Nat.add_assoc, h2, ← g2, hj]
theorem AttrsAt.keep {w w' : World} {A : Option Addr} {m : Nat} {ats : List (List UInt8 × List UInt8)} (h : AttrsAt w A m ats) (hs : w.heap.size ≤ w'.heap.size) (hk : ∀ b o, A = some ⟨b, o, none⟩ → b < w.heap.size → w'.heap[b]? = w.heap[b]?) : AttrsAt w' A m ats :=
  ⟨h.1, fun i hi => by
    obtain ⟨b, o, e, hlt, h1, h2⟩ := h.2 i hi
    have hb := hk b o e hlt
    exact ⟨b, o, e, Nat.lt_of_lt_of_le hlt hs, by rw [← h1]; simp only [World.cell?, hb], by rw [← h2]; simp only [World.cell?, hb]⟩⟩
theorem AttrsAt.none {w : World} {A : Option Addr} {m : Nat} {ats : List (List UInt8 × List UInt8)} (h : AttrsAt w A m ats) (hA : A = none) : m = 0 := by
  rw [h.1]
  cases ats with
  | nil => rfl
  | cons p r => obtain ⟨b, o, e, _⟩ := h.2 0 (by simp); rw [hA] at e; cases e
theorem own_attrs {w : World} {base m : Nat} {e : TypeId} {v : Value} {ats : List (List UInt8 × List UInt8)} (h : w.ownsRow base e 2 v m (atC ats)) :
    ∃ a c, v = .slice a m c ∧ m ≤ c ∧ AttrsAt w a m ats ∧ ∀ ad, a = some ad → base ≤ ad.block := by
  have hm : m = ats.length := by have := h.1; rw [atC_length] at this; omega
  obtain ⟨a, c, rfl, h1, h2, h3⟩ := own_slice h
  refine ⟨a, c, rfl, h1, ⟨hm, fun i hi => ?_⟩, fun ad ha => ?_⟩
  · cases a with
    | none => have := h2 rfl; omega
    | some ad =>
      obtain ⟨g, rfl, hg, hl, _, hc⟩ := h3 _ rfl
      obtain ⟨g1, g2⟩ := atC_get ats i hi
      exact ⟨g, 0, rfl, hl, by rw [Nat.zero_add]; exact hc _ _ g1, by rw [Nat.zero_add]; exact hc _ _ g2⟩
  · obtain ⟨g, rfl, hg, _⟩ := h3 _ ha
    exact hg
theorem results_cell1 {P : Program} {fn : Func} {p : Tmp} {ty : TypeId} (h : fn.results = #[.cell p ty]) (tmps : Array Value) (w : World) :
    (results fn tmps).run P w = ((asAddr (tmps.getD p undef)).run P w).andThen fun a w₁ => (loadVar ty a).run P w₁ := by
  simp only [results, h]
  simp [Sem.run_bind, Result.andThen]
end Go.Proofs.YtekoflcioooncaaDoor

namespace Go.Proofs.YtekoflcioooncaaDoor
open Go.RowKit

set_option maxRecDepth 1000000 in
set_option maxHeartbeats 4000000 in
theorem one_any (ek en ed efr ett : Int) (ename etext : List UInt8) (A : Option Addr) (m c : Nat) (ats : List (List UInt8 × List UInt8)) (w : World) (hA : AttrsAt w A m ats) (hm : m ≤ 1048576) :
    Calls Tryd.prog 53 #[.agg (evC ek en ed ename A m c etext efr ett)] w fun e w' => ∃ A' c', e = .returned (.agg (evC ek en ed ename A' m c' etext efr ett)) ∧ m ≤ c' ∧ AttrsAt w' A' m ats ∧ (∀ ad, A' = some ad → w.heap.size ≤ ad.block) ∧ Below w.heap.size w w' := by
  obtain ⟨i0, hi, hz0, hz1, hz2⟩ := info_parts infoAttr
  have HA := Lib.hid hA
  clear hA
  unfold evC
  generalize strL ename = N
  generalize strL etext = X
  have HB : Hid (∀ o o', Below w.heap.size w ((w.alloc o).alloc o')) := Lib.hid fun o o' => ((Below.refl w.heap.size w).alloc (Nat.le_refl _) o).alloc (by simp) o'
  have K1 : ∀ o o', ((w.alloc o).alloc o').heap[w.heap.size]? = some o := fun o o' => (Below.heap_alloc _ _ _ (by simp)).trans (heap_alloc_new w o)
  have K2 : ∀ o o', ((w.alloc o).alloc o').heap[w.heap.size + 1]? = some o' := fun o o' => by have := heap_alloc_new (w.alloc o) o'; simpa using this
  have K1 := Lib.hid K1
  have K2 := Lib.hid K2
  have KS : Hid (∀ o o', ((w.alloc o).alloc o').heap.size = w.heap.size + 2) := Lib.hid fun o o' => by simp
  go_enter Tryd.func53, Tryd.ntmps53
  go_wp2_with (at_builtin; go_must ((refine wpList_app_row _ (by rfl) _ _ 69 (by rfl) (w.heap.size + 2) 122 i0 (.agg #[.string ⟨#[]⟩, .string ⟨#[]⟩]) 2 32 Tryd.underlying69 hi hz0 hz1 hz2 (by rfl) (by decide) (.slice none 0 0) 0 [] (by rfl) (World.ownsRow_nil _ _ _ _) A m c (atC ats) (by rfl) (by rw [atC_length, HA.out.1]) (fun ad ha j u hj => (HA.out.below (HB.out _ _)).cells ad ha j u hj) (HA.out.none) (atC_one ats) (by omega) (by decide) (by rw [KS.out]; exact Nat.le_refl _) (fun v' w1 hown hap => ?_)); (obtain ⟨A', c', rfl, hmc, hA', hfr⟩ := own_attrs (by simpa using hown)); have k1 := (hap.keep (k := w.heap.size) (by rw [KS.out]; omega) (by intro h; cases h)).trans (K1.out _ _); have k2 := (hap.keep (k := w.heap.size + 1) (by rw [KS.out]; omega) (by intro h; cases h)).trans (K2.out _ _); have hbw := (HB.out _ _).trans (hap.below (B := w.heap.size) (by rw [KS.out]; omega) (fun k hk => by cases hk)); have hsz := hap.grown.size; rw [KS.out] at hsz; have c0 : w1.cell? ⟨w.heap.size, 0, none⟩ = some (.int .i64 ek) := (by rw [cell_heap k1]; rfl); have c1 : w1.cell? ⟨w.heap.size, 1, none⟩ = some (.int .i64 en) := (by rw [cell_heap k1]; rfl); have c2 : w1.cell? ⟨w.heap.size, 2, none⟩ = some (.int .i64 ed) := (by rw [cell_heap k1]; rfl); have c3 : w1.cell? ⟨w.heap.size, 3, none⟩ = some (.string N) := (by rw [cell_heap k1]; rfl); have c4 : w1.cell? ⟨w.heap.size, 4, none⟩ = some (.slice A m c) := (by rw [cell_heap k1]; rfl); have c5 : w1.cell? ⟨w.heap.size, 5, none⟩ = some (.string X) := (by rw [cell_heap k1]; rfl); have c6 : w1.cell? ⟨w.heap.size, 6, none⟩ = some (.int .i64 efr) := (by rw [cell_heap k1]; rfl); have c7 : w1.cell? ⟨w.heap.size, 7, none⟩ = some (.int .i64 ett) := (by rw [cell_heap k1]; rfl); have d0 : w1.cell? ⟨w.heap.size + 1, 0, none⟩ = some (.int .i64 0) := (by rw [cell_heap k2]; rfl); have d1 : w1.cell? ⟨w.heap.size + 1, 1, none⟩ = some (.int .i64 0) := (by rw [cell_heap k2]; rfl); have d2 : w1.cell? ⟨w.heap.size + 1, 2, none⟩ = some (.int .i64 0) := (by rw [cell_heap k2]; rfl); have d3 : w1.cell? ⟨w.heap.size + 1, 3, none⟩ = some (.string ⟨#[]⟩) := (by rw [cell_heap k2]; rfl); have d4 : w1.cell? ⟨w.heap.size + 1, 4, none⟩ = some (.slice none 0 0) := (by rw [cell_heap k2]; rfl); have d5 : w1.cell? ⟨w.heap.size + 1, 5, none⟩ = some (.string ⟨#[]⟩) := (by rw [cell_heap k2]; rfl); have d6 : w1.cell? ⟨w.heap.size + 1, 6, none⟩ = some (.int .i64 0) := (by rw [cell_heap k2]; rfl); have d7 : w1.cell? ⟨w.heap.size + 1, 7, none⟩ = some (.int .i64 0) := (by rw [cell_heap k2]; rfl); have f1 : ∀ j, w1.frozen? ⟨w.heap.size, j, none⟩ = false := fun j => frozen_heap k1; have f2 : ∀ j, w1.frozen? ⟨w.heap.size + 1, j, none⟩ = false := fun j => frozen_heap k2; clear hown hap k1 k2))
  (try simp only [Exit.inBlock, Exit.then])
  refine bodyPost_ret (v := .agg #[.int .i64 ek, .int .i64 en, .int .i64 ed, .string N, .slice A' m c', .string X, .int .i64 efr, .int .i64 ett]) ?_ rfl ⟨A', c', rfl, hmc, ?_, fun ad h => Nat.le_trans (Nat.le_add_right _ _) (hfr ad h), ?_⟩
  · rw [results_cell1 rfl]
    go_simp
  · refine hA'.keep (by simp [World.setCell]) fun b o h _ => ?_
    have hb := hfr _ h
    simp only at hb
    iterate 9 rw [Below.heap_setCell _ _ _ _ (by simp only; omega)]
  · iterate 9 refine Below.setCell ?_ (by simp only; omega) _
    exact hbw
end Go.Proofs.YtekoflcioooncaaDoor

namespace Go.Proofs.YtekoflcioooncaaDoor
open Go.RowKit

def setC : World → Nat → Nat → List Value → World
  | w, _, _, [] => w
  | w, g, p, v :: l => setC (w.setCell ⟨g, p, none⟩ v) g (p + 1) l
def setL : List Value → Nat → List Value → List Value
  | cs, _, [] => cs
  | cs, p, v :: l => setL (cs.set p v) (p + 1) l
theorem setL_low : ∀ (l cs : List Value) (p q : Nat), q < p → (setL cs p l)[q]? = cs[q]?
  | [], _, _, _, _ => rfl
  | v :: l, cs, p, q, h => by
    unfold setL
    rw [setL_low l _ _ _ (by omega), List.getElem?_set, if_neg (by omega)]
theorem setL_high : ∀ (l cs : List Value) (p q : Nat), p + l.length ≤ q → (setL cs p l)[q]? = cs[q]?
  | [], _, _, _, _ => rfl
  | v :: l, cs, p, q, h => by
    rw [List.length_cons] at h
    unfold setL
    rw [setL_high l _ _ _ (by omega), List.getElem?_set, if_neg (by omega)]
theorem setL_at : ∀ (l cs : List Value) (p j : Nat), p + l.length ≤ cs.length → j < l.length → (setL cs p l)[p + j]? = l[j]?
  | [], _, _, j, _, h => by simp at h
  | v :: l, cs, p, 0, h, _ => by
    rw [List.length_cons] at h
    unfold setL
    rw [setL_low l _ _ _ (by omega), List.getElem?_set]
    simp; omega
  | v :: l, cs, p, j + 1, h, hj => by
    rw [List.length_cons] at h hj
    unfold setL
    rw [show p + (j + 1) = p + 1 + j by omega, setL_at l _ _ _ (by rw [List.length_set]; omega) (by omega)]
    rfl
theorem setL_length : ∀ (l cs : List Value) (p : Nat), (setL cs p l).length = cs.length
  | [], _, _ => rfl
  | v :: l, cs, p => by unfold setL; rw [setL_length l]; simp
theorem setC_own {base g n cap : Nat} {e : TypeId} {size : Nat} : ∀ (l : List Value) (w : World) (cs : List Value) (p : Nat), w.ownsRow base e size (.slice (some ⟨g, 0, none⟩) n cap) n cs →
    (setC w g p l).ownsRow base e size (.slice (some ⟨g, 0, none⟩) n cap) n (setL cs p l)
  | [], _, _, _, h => h
  | v :: l, _, _, p, h => setC_own l _ _ _ (h.stored p v).1
theorem setC_size : ∀ (l : List Value) (w : World) (g p : Nat), (setC w g p l).heap.size = w.heap.size
  | [], _, _, _ => rfl
  | v :: l, w, g, p => by unfold setC; rw [setC_size l]; simp [World.setCell]
theorem setC_far : ∀ (l : List Value) (w : World) (g p k : Nat), k ≠ g → (setC w g p l).heap[k]? = w.heap[k]?
  | [], _, _, _, _, _ => rfl
  | v :: l, w, g, p, k, h => by unfold setC; rw [setC_far l _ _ _ _ h, Below.heap_setCell _ _ _ _ h]
theorem setC_below {B : Nat} {a : World} : ∀ (l : List Value) (w : World) (g p : Nat), B ≤ g → Below B a w → Below B a (setC w g p l)
  | [], _, _, _, _, hb => hb
  | v :: l, _, g, p, h, hb => setC_below l _ g (p + 1) h (hb.setCell (p := ⟨g, p, none⟩) h v)
theorem EvsAt.at8 {w : World} {a : Option Addr} {n : Nat} {evs : List Ev} (h : EvsAt w a n evs) (i : Nat) (hi : i < evs.length) :
    ∃ b o A m c, a = some ⟨b, o, none⟩ ∧ b < w.heap.size ∧ m ≤ c ∧ AttrsAt w A m evs[i].ats ∧ ∀ W, Below w.heap.size w W →
      W.cell? ⟨b, o + i * 8, none⟩ = some (.int .i64 evs[i].kind) ∧ W.cell? ⟨b, o + i * 8 + 1, none⟩ = some (.int .i64 evs[i].num) ∧ W.cell? ⟨b, o + i * 8 + 2, none⟩ = some (.int .i64 evs[i].dep) ∧ W.cell? ⟨b, o + i * 8 + 3, none⟩ = some (.string (strL evs[i].name)) ∧
      W.cell? ⟨b, o + i * 8 + 4, none⟩ = some (.slice A m c) ∧ W.cell? ⟨b, o + i * 8 + 5, none⟩ = some (.string (strL evs[i].text)) ∧ W.cell? ⟨b, o + i * 8 + 6, none⟩ = some (.int .i64 evs[i].fr) ∧ W.cell? ⟨b, o + i * 8 + 7, none⟩ = some (.int .i64 evs[i].tt) := by
  obtain ⟨b, o, A, m, c, e, hb, hmc, hA, hc⟩ := h.2 i hi
  refine ⟨b, o, A, m, c, e, hb, hmc, hA, fun W hW => ?_⟩
  have k := fun j (hj : j < 8) => (hW.cell (p := ⟨b, o + i * 8 + j, none⟩) hb).trans (hc j hj)
  exact ⟨k 0 (by decide), k 1 (by decide), k 2 (by decide), k 3 (by decide), k 4 (by decide), k 5 (by decide), k 6 (by decide), k 7 (by decide)⟩
def EvRow (w : World) (B k : Nat) (evs : List Ev) (cs : List Value) : Prop :=
  ∀ i, (h : i < evs.length) → i < k → ∃ A m c, m ≤ c ∧ AttrsAt w A m evs[i].ats ∧ (∀ ad, A = some ad → B ≤ ad.block) ∧ ∀ j, j < 8 → cs[i * 8 + j]? = (evL evs[i] A m c)[j]?
theorem own_cell {w : World} {base g n cap size : Nat} {e : TypeId} {xs : List Value} (h : w.ownsRow base e size (.slice (some ⟨g, 0, none⟩) n cap) n xs) (j : Nat) (hj : j < n * size) : ∃ x, w.cell? ⟨g, j, none⟩ = some x := by
  have hl := h.1
  exact ⟨xs[j], by rw [h.cellAt j hj, List.getElem?_eq_getElem (by omega)]⟩
theorem EvRow.step {w w' : World} {B k : Nat} {evs : List Ev} {cs : List Value} (h : EvRow w B k evs cs) (hlen : cs.length = evs.length * 8) (hk : k < evs.length) (hs : w.heap.size ≤ w'.heap.size)
    (hb : ∀ b, B ≤ b → b < w.heap.size → w'.heap[b]? = w.heap[b]?) (A : Option Addr) (m c : Nat) (hmc : m ≤ c) (hA : AttrsAt w' A m evs[k].ats) (hfr : ∀ ad, A = some ad → B ≤ ad.block) :
    EvRow w' B (k + 1) evs (setL cs (k * 8) (evL evs[k] A m c)) := by
  have hel : ∀ (e : Ev) (A : Option Addr) (m c : Nat), (evL e A m c).length = 8 := fun _ _ _ _ => rfl
  intro i hi hik
  by_cases h0 : i = k
  · subst h0
    exact ⟨A, m, c, hmc, hA, hfr, fun j hj => setL_at _ _ _ _ (by rw [hel]; omega) (by rw [hel]; exact hj)⟩
  · obtain ⟨A', m', c', h1, h2, h3, h4⟩ := h i hi (by omega)
    refine ⟨A', m', c', h1, h2.keep hs fun b o e hlt => hb b (h3 _ e) hlt, h3, fun j hj => ?_⟩
    rw [setL_low _ _ _ _ (by omega), h4 j hj]
theorem infoEv : (Tryd.prog.info? 71).map (fun i => (i.zero, i.size, i.bytes)) = some (some (.agg #[.int .i64 0, .int .i64 0, .int .i64 0, .string ⟨#[]⟩, .slice none 0 0, .string ⟨#[]⟩, .int .i64 0, .int .i64 0]), 8, 96) := by kernel_rfl
set_option maxRecDepth 1000000 in
set_option maxHeartbeats 4000000 in
theorem copied_any (a : Option Addr) (n c : Nat) (evs : List Ev) (w : World) (hE : EvsAt w a n evs) (hn : n ≤ 1048576) (hl : ∀ e ∈ evs, e.ats.length ≤ 1048576) :
    Calls Tryd.prog 27 #[.slice a n c] w fun e w' => ∃ cs, e = .returned (.slice (some ⟨w.heap.size, 0, none⟩) n n) ∧ w'.ownsRow w.heap.size 71 8 (.slice (some ⟨w.heap.size, 0, none⟩) n n) n cs ∧ EvRow w' (w.heap.size + 1) n evs cs ∧ Below w.heap.size w w' := by
  obtain ⟨i0, hi, hz0, hz1, hz2⟩ := info_parts infoEv
  have HE := Lib.hid hE
  have HN : Hid (n = evs.length) := Lib.hid hE.1
  have HL := Lib.hid hl
  clear hE hl
  go_enter Tryd.func27, Tryd.ntmps27
  go_wp2_with (at_make; go_must ((refine wpList_make_full _ (by rfl) _ _ 22 (by rfl) w.heap.size 71 i0 _ 8 Tryd.underlying22 hi hz0 hz1 .i64 .i64 (n : Int) (n : Int) n (by rfl) (by rfl) rfl rfl (by rw [hz2]; omega) (by unfold maxLen; omega) (Nat.le_refl _) (fun w1 hown hgr => ?_))))
  have hb1 : Below w.heap.size w w1 := (Below.refl _ w).grown hgr (Nat.le_refl _) (fun k hk => by cases hk)
  generalize (madeCells _ (n * 8)).toList = cs0 at hown
  go_loopw [11] (fun iv wr => ∃ (k : Nat) (cs : List Value), iv = .int .i64 k ∧ k ≤ n ∧ Below w.heap.size w wr ∧ wr.ownsRow w.heap.size 71 8 (.slice (some ⟨w.heap.size, 0, none⟩) n n) n cs ∧ EvRow wr (w.heap.size + 1) k evs cs) (fun iv _ => n - (intOf iv).toNat)
  case atStart => exact ⟨0, cs0, rfl, Nat.zero_le _, hb1, hown, fun i hi h => by omega⟩
  case round =>
    obtain ⟨k, cs, rfl, hk, hbr, hor, hrow⟩ := hrel
    by_cases hkn : k < n
    · have hkl : k < evs.length := by rw [← HN.out]; exact hkn
      obtain ⟨b, o, A, m, c', rfl, hb, hmc, hA, hcells⟩ := HE.out.at8 k hkl
      obtain ⟨e0, e1, e2, e3, e4, e5, e6, e7⟩ := hcells wr hbr
      have hla := HL.out _ (List.getElem_mem hkl)
      have hm : m ≤ 1048576 := by rw [hA.1]; exact hla
      clear hla
      have HONE : Hid (∀ W, Below w.heap.size w W → Calls Tryd.prog 53 #[.agg #[.int .i64 evs[k].kind, .int .i64 evs[k].num, .int .i64 evs[k].dep, .string (strL evs[k].name), .slice A m c', .string (strL evs[k].text), .int .i64 evs[k].fr, .int .i64 evs[k].tt]] W fun e w' => ∃ A' c2, e = .returned (.agg (evC evs[k].kind evs[k].num evs[k].dep evs[k].name A' m c2 evs[k].text evs[k].fr evs[k].tt)) ∧ m ≤ c2 ∧ AttrsAt w' A' m evs[k].ats ∧ (∀ ad, A' = some ad → W.heap.size ≤ ad.block) ∧ Below W.heap.size W w') := Lib.hid fun W hW => one_any _ _ _ _ _ _ _ A m c' _ W (hA.below hW) hm
      have HOR := Lib.hid hor
      have HROW := Lib.hid hrow
      have HBR := Lib.hid hbr
      have HS1 : Hid (w.heap.size < wr.heap.size) := Lib.hid (hor.lt _ rfl).2
      have HB2 : Hid (∀ o, Below w.heap.size w (wr.alloc o)) := Lib.hid fun o => hbr.alloc hbr.size o
      clear hcells hA hor hrow hbr
      go_wp2_with fail
      (with_reducible refine (HONE.out _ (HB2.out _)).mono ?_)
      rintro e w3 ⟨A', c2, rfl, hmc2, hA', hfr, hb3⟩
      unfold evC
      have hkeep : ∀ j, j < wr.heap.size → w3.heap[j]? = wr.heap[j]? := fun j hj => (hb3.block j (by simp; omega)).trans (Below.heap_alloc _ _ _ hj)
      have hsz : wr.heap.size ≤ w3.heap.size := Nat.le_trans (by simp) hb3.size
      have hb4 : Below w.heap.size w w3 := (HB2.out _).trans (hb3.mono (HB2.out _).size)
      have hfr2 : ∀ ad, A' = some ad → w.heap.size + 1 ≤ ad.block := fun ad h => by have := hfr ad h; have := HS1.out; simp at *; omega
      have hor3 := own_block HOR.out (fun j hj => by cases hj; exact hkeep _ HS1.out)
      have HX := Lib.hid (⟨hkeep, hsz, hb4, hfr2, hA', hmc2, hor3⟩ : _ ∧ _ ∧ _ ∧ _ ∧ _ ∧ _ ∧ _)
      obtain ⟨x0, y0⟩ := own_cell hor3 (k * 8) (by omega)
      obtain ⟨x1, y1⟩ := own_cell hor3 (k * 8 + 1) (by omega)
      obtain ⟨x2, y2⟩ := own_cell hor3 (k * 8 + 2) (by omega)
      obtain ⟨x3, y3⟩ := own_cell hor3 (k * 8 + 3) (by omega)
      obtain ⟨x4, y4⟩ := own_cell hor3 (k * 8 + 4) (by omega)
      obtain ⟨x5, y5⟩ := own_cell hor3 (k * 8 + 5) (by omega)
      obtain ⟨x6, y6⟩ := own_cell hor3 (k * 8 + 6) (by omega)
      obtain ⟨x7, y7⟩ := own_cell hor3 (k * 8 + 7) (by omega)
      have z := fun j => hor3.frozenAt j
      clear hkeep hsz hb4 hfr hfr2 hb3 hA' hor3 hmc2
      go_wp2_with fail
      obtain ⟨hkeep, hsz, hb4, hfr2, hA', hmc2, hor3⟩ := HX.out
      have hlen : cs.length = evs.length * 8 := by have := HOR.out.1; have := HN.out; omega
      have hstep := HROW.out.step (w' := setC w3 w.heap.size (k * 8) (evL evs[k] A' m c2)) hlen hkl (by rw [setC_size]; exact hsz) (fun j h1 h2 => by rw [setC_far _ _ _ _ _ (by omega)]; exact hkeep j h2) A' m c2 hmc2 (hA'.keep (by rw [setC_size]; exact Nat.le_refl _) (fun j o' e hlt => setC_far _ _ _ _ _ (by have := hfr2 _ e; simp only at this; omega))) hfr2
      have hown' := setC_own (evL evs[k] A' m c2) w3 cs (k * 8) hor3
      have hbelow' := setC_below (evL evs[k] A' m c2) w3 w.heap.size (k * 8) (Nat.le_refl _) hb4
      go_roundw
      case rel => exact ⟨k + 1, setL cs (k * 8) (evL evs[k] A' m c2), by go_num, by omega, hbelow', hown', hstep⟩
      case measure => simp [intOf]; omega
    · have hk2 : k = n := by omega
      subst hk2
      go_wp2_with fail
      go_ret
      exact ⟨cs, rfl, hor, hrow, hbr⟩
end Go.Proofs.YtekoflcioooncaaDoor

namespace Go.Proofs.YtekoflcioooncaaDoor
open Go.RowKit

def ckRow (x : Int × Int × List UInt8) : List Value := [.int .i64 0, .int .i64 x.1, .int .i64 x.2.1, .string (strL x.2.2), .slice none 0 0, .string ⟨#[]⟩, .int .i64 0, .int .i64 0]
def ckC (l : List (Int × Int × List UInt8)) : List Value := l.reverse.flatMap ckRow
theorem ckC_cons (x : Int × Int × List UInt8) (l : List (Int × Int × List UInt8)) : ckC (x :: l) = ckC l ++ ckRow x := by
  unfold ckC
  rw [List.reverse_cons, List.flatMap_append]
  simp
theorem ckC_length (l : List (Int × Int × List UInt8)) : (ckC l).length = l.length * 8 := by
  induction l with
  | nil => rfl
  | cons x l ih => rw [ckC_cons, List.length_append, ih, List.length_cons]; show _ + 8 = _; omega
theorem ckC_top (x : Int × Int × List UInt8) (l : List (Int × Int × List UInt8)) (j : Nat) (hj : j < 8) : (ckC (x :: l))[l.length * 8 + j]? = (ckRow x)[j]? := by
  rw [ckC_cons, ← ckC_length, List.getElem?_append_right (by omega), Nat.add_sub_cancel_left]
theorem ckRow_one (x : Int × Int × List UInt8) : ∀ u ∈ ckRow x, u.oneCell' = true := by
  intro u hu
  unfold ckRow at hu
  simp only [List.mem_cons, List.not_mem_nil, or_false] at hu
  rcases hu with rfl | rfl | rfl | rfl | rfl | rfl | rfl | rfl <;> rfl
structure Chk (w : World) (R cb : Nat) (v : Value) (s : BegS) : Prop where
  lt : cb < R
  le : R ≤ w.heap.size
  at' : w.heap[cb]? = some (.cells #[v, .int .i64 s.next, .bool s.text, .bool (decide (s.opn = [] ∧ s.cnt ≠ 0))] 74 (0, 0))
  own : w.ownsRow R 71 8 v s.opn.length (ckC s.opn)
  fst : s.cnt = 0 → s.next = 0
  sm : s.opn.length ≤ 1048576 ∧ 0 ≤ s.next ∧ s.next ≤ 1048576
structure Moved (cb : Nat) (v v' : Value) (w w' : World) : Prop where
  os : w'.os = w.os
  tape : w'.tape = w.tape
  output : w'.output = w.output
  size : w.heap.size ≤ w'.heap.size
  block : ∀ k, k < w.heap.size → k ≠ cb → v.ownBlock ≠ some k → w'.heap[k]? = w.heap[k]?
  own : v'.ownBlock = v.ownBlock ∨ ∀ k, v'.ownBlock = some k → w.heap.size ≤ k
theorem Moved.of {cb : Nat} {v : Value} {w w' : World} (h : Below w.heap.size w w') : Moved cb v v w w' := ⟨h.os, h.tape, h.output, h.size, fun k hk _ _ => h.block k hk, .inl rfl⟩
theorem Moved.trans {cb : Nat} {v1 v2 v3 : Value} {a b c : World} (h : Moved cb v1 v2 a b) (k : Moved cb v2 v3 b c) : Moved cb v1 v3 a c := by
  refine ⟨k.os.trans h.os, k.tape.trans h.tape, k.output.trans h.output, Nat.le_trans h.size k.size, fun i h1 h2 h3 => ?_, ?_⟩
  · refine (k.block i (Nat.lt_of_lt_of_le h1 h.size) h2 (fun e => ?_)).trans (h.block i h1 h2 h3)
    rcases h.own with ho | ho
    · rw [ho] at e; exact h3 e
    · have := ho i e; omega
  · rcases k.own with ho | ho
    · rw [ho]; exact h.own
    · exact .inr fun i hi => Nat.le_trans h.size (ho i hi)
theorem Moved.set {cb : Nat} {v v' : Value} {w w' : World} (h : Moved cb v v' w w') (i : Nat) (u : Value) : Moved cb v v' w (w'.setCell ⟨cb, i, none⟩ u) :=
  ⟨h.os, h.tape, h.output, by simp [World.setCell]; exact h.size, fun k h1 h2 h3 => (Below.heap_setCell _ _ _ _ h2).trans (h.block k h1 h2 h3), h.own⟩
theorem Moved.app {cb : Nat} {v v' : Value} {w w' : World} (h : App w w' v v') : Moved cb v v' w w' :=
  ⟨h.grown.os, h.grown.tape, h.grown.output, h.grown.size, fun k h1 _ h3 => h.keep h1 h3, by
    rcases h.own with e | ⟨g, e, hg⟩
    · exact .inl e
    · exact .inr fun k hk => by rw [e] at hk; cases hk; exact hg⟩
theorem Moved.drewN {cb : Nat} {v v' : Value} {w w' : World} (h : Moved cb v v' w w') (n : Nat) : Moved cb v v' w (w'.drewN n) := ⟨h.os, h.tape, h.output, h.size, h.block, h.own⟩
theorem Moved.below {cb B : Nat} {v v' : Value} {w w' : World} (h : Moved cb v v' w w') (h1 : B ≤ cb) (h2 : B ≤ w.heap.size) (h3 : ∀ k, v.ownBlock = some k → B ≤ k) : Below B w w' :=
  ⟨h.os, h.tape, h.output, h.size, fun k hk => h.block k (by omega) (by omega) (fun e => by have := h3 k e; omega)⟩
theorem Chk.keep {w w' : World} {R cb : Nat} {v : Value} {s : BegS} (h : Chk w R cb v s) (hs : w.heap.size ≤ w'.heap.size) (h1 : w'.heap[cb]? = w.heap[cb]?) (h2 : ∀ k, R ≤ k → k < w.heap.size → v.ownBlock = some k → w'.heap[k]? = w.heap[k]?) : Chk w' R cb v s :=
  ⟨h.lt, Nat.le_trans h.le hs, h1.trans h.at', own_block h.own (fun k hk => h2 k (h.own.lt k hk).1 (h.own.lt k hk).2 hk), h.fst, h.sm⟩
theorem Chk.below {w w' : World} {R cb : Nat} {v : Value} {s : BegS} (h : Chk w R cb v s) (hb : Below w.heap.size w w') : Chk w' R cb v s :=
  h.keep hb.size (hb.block cb (Nat.lt_of_lt_of_le h.lt h.le)) (fun k _ hk _ => hb.block k hk)
theorem step_app {P : Program} (w : World) {ops : Array Oper} {o : Oper} {a : Act} {K : Act → World → Prop} {Q : Exit → Act → World → Prop} {E : Prop} (hgd : o.guard = none) (s x : Operand) (t : TypeId)
    (ho : o.op = .call { callee := .builtin .append, args := #[s, x], argTypes := #[t, t] })
    (base : Nat) (e : TypeId) (i : TypeInfo) (z : Value) (size bytes : Nat) (ht : P.underlying t = some (.slice e)) (hi : P.info? e = some i) (hz : i.zero = some z)
    (hsize : i.size = size) (hby : i.bytes = bytes) (hzs : z.cells.size = size) (hsz : 0 < size)
    (v : Value) (n : Nat) (xs : List Value) (hs : a.eval s = v) (hown : w.ownsRow base e size v n xs)
    (H : Nat) (c : Nat) (news : List Value) (hx : a.eval x = .slice (some ⟨H, 0, none⟩) 1 c) (hl : news.length = size) (hc : w.heap[H]? = some (.cells news.toArray e (0, 0))) (h1 : ∀ u ∈ news, u.oneCell' = true)
    (hn : n + 1 ≤ 4294967296) (hbb : bytes ≤ 16384) (hbase : base ≤ w.heap.size)
    (h : ∀ v' w', w'.ownsRow base e size v' (n + 1) (xs ++ news) → App w w' v v' → K (a.put o.dst v') w') :
    if Region.wanted o (yielded ops a.tmps) = true then Oper.wp P o a w K Q else E := by
  have hw : Region.wanted o (yielded ops a.tmps) = true := by simp [Region.wanted, hgd]
  rw [if_pos hw]
  have hb : (n + 1) * bytes ≤ 140737488355328 := Nat.le_trans (Nat.mul_le_mul hn hbb) (by decide)
  obtain ⟨v', w', hr, h2, h3, _, h5⟩ := run_append_own_at (P := P) w base t o.type e i z size bytes ht hi hz hsize hby hzs hsz v n xs hown ⟨H, 0, none⟩ 1 c news (by omega) (fun j u hj => by rw [show (⟨H, 0, none⟩ : Addr).add j = ⟨H, j, none⟩ by rw [add_cell, Nat.zero_add], cell_heap hc]; simpa using hj) h1 (by unfold maxLen; omega) hb hbase
  unfold Oper.wp execOp
  simp only [ho, resolve, invoke, builtin, Sem.run_bind, Sem.run_pure, Result.andThen_ok, List.map_toArray, List.map_cons, List.map_nil, hs, hx, hr]
  refine h v' w' h2 ⟨h3, ?_⟩
  rcases h5 with h5 | h5
  · exact .inl h5
  · exact .inr ⟨_, h5, Nat.le_refl _⟩
end Go.Proofs.YtekoflcioooncaaDoor
